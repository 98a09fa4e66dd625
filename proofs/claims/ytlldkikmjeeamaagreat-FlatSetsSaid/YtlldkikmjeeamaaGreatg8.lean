/-
  Walks: searches in lists.
  Walks: keywords; lists of names.
  Walks: a model's names.
  Walks: a model's numbers and ranks.
  Walks: a rule is right.
  Walks: a counter model's rule is right.
  Walks: types; flat types are right.
  Walks: values of flat types; a counter model is valid.
  Walks: a valid counter model is found valid.
  Walks: valid atoms, whether they hold, whether they are closed.
  Walks: whether an atom holds, and whether it is closed.
  Walks: Holds, Closed, Excludes.
  Plain laws: effects of sequences of rules of counter models (one place at a time): what a sequence needs, by how much it changes a vector, how often a cycle can be done.
  Plain laws: cycles of counter models: what they need, how often they can be done, where they lead.
  Walks: effects of sequences of rules (counter.Effect), finite vectors.
  Walks: slices.Repeat and slices.Clone of numbers.
  Walks: cycles of counter models: flat.Check, loops, how often they can be done.
-/
import Derived.Test.YtlldkikmjeeamaaGreatg7
/-! ## CmI -/
namespace Go.AM
open Go Go.Proofs Go.RowKit

theorem mem_bangI {α : Type} [Inhabited α] {l : List α} {i : Nat} (h : i < l.length) : l[i]! ∈ l := by rw [getElem!_pos l i h]; exact List.getElem_mem h

/-- a function value that tells by p, one call at a time -/
def TellsI (f : FuncId) (caps : List AV) (l : List Int) (p : Int → Bool) : Prop := ∀ x ∈ l, Con Tryz.prog f ([vi x] ++ caps) [] fun r _ => r = .sc (.bool (p x))
set_option maxRecDepth 100000 in
theorem con_indexInt (l : List Int) (f : FuncId) (caps : List AV) (p : Int → Bool) (hc : mapTops (viewV []) caps = caps) (hf : TellsI f caps l p) (hl : l.length ≤ 9223372036854775806) : Con Tryz.prog 138 [vs 0 l, .fn f caps] [] fun r _ => r = vi (findI p l) := by
  refine Con.intro Tryz.func138 rfl Tryz.ntmps138 Tryz.results138 (by kernel_rfl) (by simp) 0 (by simp) ?_
  simp only [go_sem]
  refine LoopK.intro (fun i : Nat => ⟨19, [(0, vs 0 l), (1, .fn f caps), (7, vi l.length), (8, vi i)], []⟩)
    (fun i => l.length - i) (fun i => i ≤ l.length ∧ ∀ j, j < i → p l[j]! = false) 0 ⟨by omega, fun j hj => by omega⟩ ?_ ?_
  · simp only [go_sem]
    all_goals exact leV_refl _
  · rintro i ⟨hi, hb⟩
    by_cases h : i < l.length
    · have hg := getv h
      have hw : IntKind.i64.wrap (i + 1) = i + 1 := wrap_in (by omega) (by omega)
      simp only [go_sem, h, hg]
      refine CallU.look (hf l[i]! (mem_bangI h)) (by simp only [go_sem]) (by simp only [go_sem, hc]) ?_
      rintro r bx rfl
      cases hp : p l[i]!
      · simp only [go_sem, hw]
        refine roundK.intro (i + 1) ⟨by omega, fun j hj => ?_⟩ (by omega) ?_
        · by_cases hji : j = i
          · subst hji; exact hp
          · exact hb j (by omega)
        · simp only [go_sem]
      · simp only [go_sem]
        rw [findI_stop h hb hp]
    · simp only [go_sem, h]
      rw [findI_none (fun j hj => hb j (by omega))]
set_option maxRecDepth 100000 in
theorem con_containsInt (l : List Int) (f : FuncId) (caps : List AV) (p : Int → Bool) (hc : mapTops (viewV []) caps = caps) (hf : TellsI f caps l p) (hl : l.length ≤ 9223372036854775806) : Con Tryz.prog 78 [vs 0 l, .fn f caps] [] fun r _ => r = .sc (.bool (l.any p)) := by
  refine Con.intro Tryz.func78 rfl Tryz.ntmps78 Tryz.results78 (by kernel_rfl) (by simp) 0 (by simp) ?_
  simp only [go_sem]
  refine CallU.look (con_indexInt l f caps p hc hf hl) (by simp only [go_sem]) (by simp only [go_sem]) ?_
  rintro r bx rfl
  simp only [go_sem, findI_ge]

/-- rules -/
def TellsR (f : FuncId) (caps : List AV) (l : List RD) (p : RD → Bool) : Prop := ∀ x ∈ l, Con Tryz.prog f ([vRule x] ++ caps) [] fun r _ => r = .sc (.bool (p x))
attribute [go_sem] vRule
set_option maxRecDepth 100000 in
theorem con_indexRule (l : List RD) (f : FuncId) (caps : List AV) (p : RD → Bool) (hc : mapTops (viewV []) caps = caps) (hf : TellsR f caps l p) (hl : l.length ≤ 9223372036854775806) : Con Tryz.prog 208 [.sl 0 14 (l.map vRule), .fn f caps] [] fun r _ => r = vi (findI p l) := by
  refine Con.intro Tryz.func208 rfl Tryz.ntmps208 Tryz.results208 (by kernel_rfl) (by simp) 0 (by simp) ?_
  simp only [go_sem]
  refine LoopK.intro (fun i : Nat => ⟨19, [(0, .sl 0 14 (l.map vRule)), (1, .fn f caps), (7, vi l.length), (8, vi i)], []⟩)
    (fun i => l.length - i) (fun i => i ≤ l.length ∧ ∀ j, j < i → p l[j]! = false) 0 ⟨by omega, fun j hj => by omega⟩ ?_ ?_
  · simp only [go_sem]
    all_goals exact leV_refl _
  · rintro i ⟨hi, hb⟩
    by_cases h : i < l.length
    · have hg := getRule h
      have hw : IntKind.i64.wrap (i + 1) = i + 1 := wrap_in (by omega) (by omega)
      simp only [go_sem, h, hg]
      refine CallU.look (hf l[i]! (mem_bangI h)) (by simp only [go_sem]) (by simp only [go_sem, hc]) ?_
      rintro r bx rfl
      cases hp : p l[i]!
      · simp only [go_sem, hw]
        refine roundK.intro (i + 1) ⟨by omega, fun j hj => ?_⟩ (by omega) ?_
        · by_cases hji : j = i
          · subst hji; exact hp
          · exact hb j (by omega)
        · simp only [go_sem]
      · simp only [go_sem]
        rw [findI_stop h hb hp]
    · simp only [go_sem, h]
      rw [findI_none (fun j hj => hb j (by omega))]
set_option maxRecDepth 100000 in
theorem con_containsRule (l : List RD) (f : FuncId) (caps : List AV) (p : RD → Bool) (hc : mapTops (viewV []) caps = caps) (hf : TellsR f caps l p) (hl : l.length ≤ 9223372036854775806) : Con Tryz.prog 166 [.sl 0 14 (l.map vRule), .fn f caps] [] fun r _ => r = .sc (.bool (l.any p)) := by
  refine Con.intro Tryz.func166 rfl Tryz.ntmps166 Tryz.results166 (by kernel_rfl) (by simp) 0 (by simp) ?_
  simp only [go_sem]
  refine CallU.look (con_indexRule l f caps p hc hf hl) (by simp only [go_sem]) (by simp only [go_sem]) ?_
  rintro r bx rfl
  simp only [go_sem, findI_ge]

set_option maxRecDepth 100000 in
theorem con_all1 (x : Int) (g : FuncId) (caps : List AV) (p : Int → Bool) (hc : mapTops (viewV []) caps = caps) (hf : Con Tryz.prog g ([vi x] ++ caps) [] fun r _ => r = .sc (.bool (p x))) : Con Tryz.prog 246 [vi x, .fp [.fn g caps] 0] [] fun r _ => r = .sc (.bool (!p x)) := by
  refine Con.intro Tryz.func246 rfl Tryz.ntmps246 Tryz.results246 (by kernel_rfl) (by simp) 0 (by simp) ?_
  simp only [go_sem]
  refine CallU.look hf (by simp only [go_sem]) (by simp only [go_sem, hc]) ?_
  rintro r bx rfl
  simp only [go_sem]
theorem any_not {α : Type} (p : α → Bool) : ∀ l : List α, (!l.any fun x => !p x) = l.all p
  | [] => rfl
  | x :: l => by rw [List.any_cons, List.all_cons, ← any_not p l]; cases p x <;> simp
set_option maxRecDepth 100000 in
theorem con_all (l : List Int) (g : FuncId) (caps : List AV) (p : Int → Bool) (hc : mapTops (viewV []) caps = caps) (hf : TellsI g caps l p) (hl : l.length ≤ 9223372036854775806) : Con Tryz.prog 215 [vs 0 l, .fn g caps] [] fun r _ => r = .sc (.bool (l.all p)) := by
  refine Con.intro Tryz.func215 rfl Tryz.ntmps215 Tryz.results215 (by kernel_rfl) (by simp) 1 (by simp) ?_
  simp only [go_sem]
  refine CallU.look (con_containsInt l 246 [.fp [.fn g caps] 0] (fun x => !p x) (by simp only [go_sem]) (fun x hx => con_all1 x g caps p hc (hf x hx)) hl) (by simp only [go_sem]) (by simp only [go_sem]) ?_
  rintro r bx rfl
  simp only [go_sem, any_not]

theorem beq_cut {a b : List Int} (h : a.length ≠ b.length) : (a == b) = false := by
  rw [beq_eq_false_iff_ne]; intro e; rw [e] at h; exact h rfl
theorem eqI_stop {a b : List Int} {i : Nat} (h : a[i]! ≠ b[i]!) : (a == b) = false := by
  rw [beq_eq_false_iff_ne]; intro e; rw [e] at h; exact h rfl
theorem eqI_all {a b : List Int} (hl : a.length = b.length) (h : ∀ j, j < a.length → a[j]! = b[j]!) : (a == b) = true := by
  rw [beq_iff_eq]
  apply List.ext_getElem hl
  intro i h1 h2
  have := h i h1
  rw [getElem!_pos a i h1, getElem!_pos b i h2] at this; exact this
set_option maxRecDepth 100000 in
theorem con_equalInt (a b : List Int) (hl : a.length ≤ 9223372036854775806) : Con Tryz.prog 76 [vs 0 a, vs 0 b] [] fun r _ => r = .sc (.bool (a == b)) := by
  refine Con.intro Tryz.func76 rfl Tryz.ntmps76 Tryz.results76 (by kernel_rfl) (by simp) 0 (by simp) ?_
  by_cases he : a.length = b.length
  case neg =>
    have he' : ((a.length : Int) != (b.length : Int)) = true := bne_iff_ne.2 (by omega)
    simp only [go_sem, he', beq_cut he]
  simp only [go_sem, he]
  refine LoopK.intro (fun i : Nat => ⟨26, [(0, vs 0 a), (1, vs 0 b), (12, vi a.length), (13, vi i)], []⟩)
    (fun i => a.length - i) (fun i => i ≤ a.length ∧ ∀ j, j < i → a[j]! = b[j]!) 0 ⟨by omega, fun j hj => by omega⟩ ?_ ?_
  · simp only [go_sem, he]
    all_goals exact leV_refl _
  rintro i ⟨hi, hb⟩
  by_cases h : i < a.length
  · have h2 : i < b.length := by omega
    have g1 := getv h
    have g2 := getv h2
    have hw : IntKind.i64.wrap (i + 1) = i + 1 := wrap_in (by omega) (by omega)
    simp only [go_sem, h]
    refine DrawK.walk 9 mixed (by kernel_rfl) ?_
    by_cases hp : a[i]! = b[i]!
    · simp only [go_sem, h, h2, g1, g2, hp, hw]
      refine roundK.intro (i + 1) ⟨by omega, fun j hj => ?_⟩ (by omega) ?_
      · by_cases hji : j = i
        · subst hji; exact hp
        · exact hb j (by omega)
      · simp only [go_sem]
    · have hp' : (a[i]! != b[i]!) = true := bne_iff_ne.2 hp
      simp only [go_sem, h, h2, g1, g2, hp']
      rw [eqI_stop hp]
  · simp only [go_sem, h]
    rw [eqI_all he (fun j hj => hb j (by omega))]
end Go.AM

/-! ## CmJ -/
namespace Go.AM
open Go Go.Proofs Go.RowKit

set_option maxRecDepth 100000 in
theorem con_indexStr (l : List ByteArray) (v : ByteArray) (hl : l.length ≤ 9223372036854775806) : Con Tryz.prog 258 [vss l, vStr v] [] fun r _ => r = vi (findI (fun x => v.toList == x.toList) l) := by
  refine Con.intro Tryz.func258 rfl Tryz.ntmps258 Tryz.results258 (by kernel_rfl) (by simp) 0 (by simp) ?_
  simp only [go_sem]
  refine LoopK.intro (fun i : Nat => ⟨19, [(0, vss l), (1, vStr v), (7, vi l.length), (8, vi i)], []⟩)
    (fun i => l.length - i) (fun i => i ≤ l.length ∧ ∀ j, j < i → (v.toList == l[j]!.toList) = false) 0 ⟨by omega, fun j hj => by omega⟩ ?_ ?_
  · simp only [go_sem]
    all_goals exact leV_refl _
  · rintro i ⟨hi, hb⟩
    by_cases h : i < l.length
    · have hg := getStr h
      have hw : IntKind.i64.wrap (i + 1) = i + 1 := wrap_in (by omega) (by omega)
      cases hp : (v.toList == l[i]!.toList)
      · simp only [go_sem, h, hg, hp, hw]
        refine roundK.intro (i + 1) ⟨by omega, fun j hj => ?_⟩ (by omega) ?_
        · by_cases hji : j = i
          · subst hji; exact hp
          · exact hb j (by omega)
        · simp only [go_sem]
      · simp only [go_sem, h, hg, hp]
        rw [findI_stop (p := fun x : ByteArray => v.toList == x.toList) h hb hp]
    · simp only [go_sem, h]
      rw [findI_none (p := fun x : ByteArray => v.toList == x.toList) (fun j hj => hb j (by omega))]
set_option maxRecDepth 100000 in
theorem con_containsStr (l : List ByteArray) (v : ByteArray) (hl : l.length ≤ 9223372036854775806) : Con Tryz.prog 238 [vss l, vStr v] [] fun r _ => r = .sc (.bool (l.any fun x => v.toList == x.toList)) := by
  refine Con.intro Tryz.func238 rfl Tryz.ntmps238 Tryz.results238 (by kernel_rfl) (by simp) 0 (by simp) ?_
  simp only [go_sem]
  refine CallU.free (con_indexStr l v hl) (by simp only [go_sem]) (by simp only [go_sem]) ?_
  rintro r bx rfl
  simp only [go_sem, findI_ge]
set_option maxRecDepth 100000 in
theorem con_keyword (s : ByteArray) : Con Tryz.prog 207 [vStr s] [] fun r _ => r = vb (keywordB s) := by
  refine Con.intro Tryz.func207 rfl Tryz.ntmps207 Tryz.results207 (by kernel_rfl) (by simp) 0 (by simp) ?_
  simp only [go_sem]
  refine CallU.flat (con_containsStr kwL s (by decide)) (by simp only [go_sem]) (by simp only [go_sem, kwL, List.map_cons, List.map_nil]) ?_
  rintro r bx rfl
  simp only [go_sem]
  rfl

/-! ### lists, one after the other -/
/-- how long the first i lists are, together -/
def sumL {α : Type} (ls : List (List α)) (i : Nat) : Nat := ((ls.take i).map List.length).sum
theorem sumL_zero {α : Type} (ls : List (List α)) : sumL ls 0 = 0 := rfl
theorem sumL_succ {α : Type} {ls : List (List α)} {i : Nat} (h : i < ls.length) : sumL ls (i + 1) = sumL ls i + ls[i]!.length := by
  unfold sumL
  rw [List.take_add_one, List.getElem?_eq_getElem h, getElem!_pos ls i h, List.map_append, List.sum_append]
  simp only [Option.toList, List.map_cons, List.map_nil, List.sum_cons, List.sum_nil, Nat.add_zero]
theorem sumL_mono {α : Type} {ls : List (List α)} : ∀ {i : Nat}, sumL ls i ≤ ls.flatten.length := by
  intro i
  unfold sumL
  rw [← List.length_flatten]
  have h : ls.flatten = (ls.take i).flatten ++ (ls.drop i).flatten := by rw [← List.flatten_append, List.take_append_drop]
  rw [h, List.length_append]; omega
theorem flat_succ {α : Type} {ls : List (List α)} {i : Nat} (h : i < ls.length) : (ls.take (i + 1)).flatten = (ls.take i).flatten ++ ls[i]! := by
  rw [List.take_add_one, List.getElem?_eq_getElem h, getElem!_pos ls i h, List.flatten_append]
  simp only [Option.toList, List.flatten_cons, List.flatten_nil, List.append_nil]
theorem getRow {ls : List (List ByteArray)} {i : Nat} (h : i < ls.length) : (ls.map vss)[i]? = some (.sl 0 1 (ls[i]!.map vStr)) := by
  rw [List.getElem?_map, List.getElem?_eq_getElem h, getElem!_pos ls i h, Option.map_some]; rfl
set_option maxRecDepth 100000 in
theorem con_growStr (n : Nat) (h1 : 1 ≤ n) (h2 : n ≤ 1000000) : Con Tryz.prog 234 [.nil, vi n] [] fun r _ => r = .sl 2 1 [] := by
  refine Con.intro Tryz.func234 rfl Tryz.ntmps234 Tryz.results234 (by kernel_rfl) (by simp) 0 (by simp) ?_
  have a1 : ¬ ((n : Int) < 0) := by omega
  have a2 : (0 : Int) < (n : Int) := by omega
  have hw : IntKind.i64.wrap ((n : Int) - 0) = n := by rw [wrap_in (by omega) (by omega)]; omega
  have hz : IntKind.i64.wrap 0 = 0 := wrap_in (by omega) (by omega)
  simp only [go_sem, a1, a2, hz, hw]
  omega
set_option maxRecDepth 100000 in
theorem con_concatStr (ls : List (List ByteArray)) (h1 : 1 ≤ ls.flatten.length) (h2 : ls.flatten.length ≤ 1000000) (hl : ls.length ≤ 1000000) : Con Tryz.prog 205 [.sl 0 1 (ls.map vss)] [] fun r _ => r = .sl 2 1 (ls.flatten.map vStr) := by
  refine Con.intro Tryz.func205 rfl Tryz.ntmps205 Tryz.results205 (by kernel_rfl) (by simp) 0 (by simp) ?_
  simp only [go_sem]
  refine LoopK.intro (fun i : Nat => ⟨36, [(0, .sl 0 1 (ls.map vss)), (2, .nil), (3, vi (sumL ls i)), (9, .sl 0 1 (ls.map vss)), (10, vi ls.length), (11, vi i)], []⟩)
    (fun i => ls.length - i) (fun i => i ≤ ls.length) 0 (by omega) ?_ ?_
  · simp only [go_sem, sumL_zero]
    all_goals exact leV_refl _
  rintro i hi
  have hm := sumL_mono (ls := ls) (i := i)
  by_cases h : i < ls.length
  · have hg := getRow h
    have hw : IntKind.i64.wrap (i + 1) = i + 1 := wrap_in (by omega) (by omega)
    have hm2 := sumL_mono (ls := ls) (i := i + 1)
    have hs := sumL_succ h
    have hw2 : IntKind.i64.wrap ((sumL ls i : Int) + (ls[i]!.length : Int)) = (sumL ls (i + 1) : Int) := by rw [wrap_in (by omega) (by omega)]; omega
    have a1 : ¬ ((sumL ls (i + 1) : Int) < 0) := by omega
    simp only [go_sem, h, hg, hw, hw2, a1]
    refine roundK.intro (i + 1) (by omega) (by omega) ?_
    simp only [go_sem]
  · obtain rfl : i = ls.length := by omega
    have e : sumL ls ls.length = ls.flatten.length := by unfold sumL; rw [List.take_length, ← List.length_flatten]
    simp only [go_sem, h, e]
    refine CallU.free (con_growStr ls.flatten.length h1 h2) (by simp only [go_sem]) (by simp only [go_sem]) ?_
    rintro r bx rfl
    simp only [go_sem]
    refine LoopK.intro (fun i : Nat => ⟨36, [(0, .sl 0 1 (ls.map vss)), (2, .nil), (6, .sl 1602 1 (((ls.take i).flatten).map vStr)), (25, .sl 0 1 (ls.map vss)), (26, vi ls.length), (27, vi i)], []⟩)
      (fun i => ls.length - i) (fun i => i ≤ ls.length) 0 (by omega) ?_ ?_
    · simp only [go_sem, List.take_zero, List.flatten_nil, List.map_nil]
      all_goals exact leV_refl _
    rintro i hi
    by_cases h : i < ls.length
    · have hg := getRow h
      have hw : IntKind.i64.wrap (i + 1) = i + 1 := wrap_in (by omega) (by omega)
      have hm2 := sumL_mono (ls := ls) (i := i + 1)
      have hs := sumL_succ h
      have hf := flat_succ h
      have el : (ls.take i).flatten.length = sumL ls i := by unfold sumL; rw [List.length_flatten]
      simp only [go_sem, h, hg, hw]
      refine ⟨by simp only [roomFor, el]; omega, ?_⟩
      refine roundK.intro (i + 1) (by omega) (by omega) ?_
      simp only [go_sem, hf, List.map_append]
    · obtain rfl : i = ls.length := by omega
      simp only [go_sem, h, List.take_length]
end Go.AM

/-! ## CmK -/
namespace Go.AM
open Go Go.Proofs Go.RowKit

attribute [go_sem] vM cM
theorem leC_any : ∀ (l : List AV) (n : Nat), l.length = n → leC l (List.replicate n .any)
  | [], _, h => by subst h; exact trivial
  | x :: l, _, h => by subst h; exact ⟨leV_any x, leC_any l l.length rfl⟩
theorem take_map_succ {α β : Type} [Inhabited α] {l : List α} {i : Nat} (f : α → β) (h : i < l.length) : (l.take (i + 1)).map f = (l.take i).map f ++ [f l[i]!] := by
  rw [List.take_add_one, List.getElem?_eq_getElem h, getElem!_pos l i h, List.map_append]; rfl
theorem metD_le : ∀ (n : Nat) (ks : List (List UInt8)), ks.length = n → mapLen (metD ks) ≤ n := by
  intro n
  induction n with
  | zero => intro ks h; obtain rfl := List.eq_nil_of_length_eq_zero h; exact Nat.le_refl _
  | succ n ih =>
    intro ks h
    obtain ⟨ks', x, rfl⟩ : ∃ ks' x, ks = ks' ++ [x] := ⟨ks.dropLast, ks.getLast (by intro e; rw [e] at h; simp at h), (List.dropLast_concat_getLast _).symm⟩
    have ih' := ih ks' (by simpa using h)
    have e : ∀ D : DataW Unit, mapLen D = Go.Maps.size D := fun D => by cases D <;> rfl
    rw [← metD_snoc, e, Go.Maps.size_put (metD_tidy _), ← e]
    split <;> omega
def dataL (s : ByteArray) : List UInt8 := s.data.toList
theorem names_bad {l : List ByteArray} {i : Nat} (h : i < l.length) (hb : okN l i = false) : namesB l = false := by
  unfold namesB
  rw [List.all_eq_false]
  exact ⟨i, List.mem_range.2 h, by rw [hb]; simp⟩
theorem names_ok {l : List ByteArray} (h : ∀ i, i < l.length → okN l i = true) : namesB l = true := by
  unfold namesB
  rw [List.all_eq_true]
  exact fun i hi => h i (List.mem_range.1 hi)
theorem ba_self (s : ByteArray) : s.data.toList = dataL s := rfl
/-- the names of the first rules -/
def namesTo (m : MD) (i : Nat) : List ByteArray := m.states ++ m.places ++ m.letters ++ (m.rules.take i).map RD.name
theorem namesTo_zero (m : MD) : namesTo m 0 = m.states ++ m.places ++ m.letters := by simp [namesTo]
theorem namesTo_succ {m : MD} {i : Nat} (h : i < m.rules.length) : namesTo m (i + 1) = namesTo m i ++ [m.rules[i]!.name] := by
  unfold namesTo
  rw [List.take_add_one, List.getElem?_eq_getElem h, getElem!_pos m.rules i h, List.map_append]
  simp only [Option.toList, List.map_cons, List.map_nil, List.append_assoc]
theorem namesTo_all (m : MD) : namesTo m m.rules.length = namesOf m := by unfold namesTo namesOf; rw [List.take_length]
theorem namesTo_len {m : MD} {i : Nat} : (namesTo m i).length ≤ (namesOf m).length := by
  unfold namesTo namesOf
  simp only [List.length_append, List.length_map, List.length_take]; omega
set_option maxRecDepth 100000 in
theorem con_named (m : MD) (h1 : 1 ≤ m.states.length) (h2 : (namesOf m).length ≤ 1000000) (hs : ∀ s ∈ namesOf m, s.size ≤ 9223372036854775806) : Con Tryz.prog 165 [vM m] [] fun r _ => r = vb (namesB (namesOf m)) := by
  refine Con.intro Tryz.func165 rfl Tryz.ntmps165 Tryz.results165 (by kernel_rfl) (by simp) 1 (by simp) ?_
  have h2' := h2
  unfold namesOf at h2'
  simp only [List.length_append, List.length_map] at h2'
  simp only [go_sem]
  refine CallU.freeze (con_concatStr [m.states, m.places, m.letters] (by simp; omega) (by simp; omega) (by simp)) (by simp only [go_sem]) (by simp only [go_sem, List.map_cons, List.map_nil]) ?_
  rintro r bx rfl
  have e0 : [m.states, m.places, m.letters].flatten = namesTo m 0 := by rw [namesTo_zero]; simp
  rw [e0]
  simp only [go_sem]
  refine LoopK.intro (fun i : Nat => ⟨52, [(1, .pb 0 0), (2, vb false), (3, .mp 640 Tryz.prog 9 4 (metD [])), (4, .sl 1154 1 ((namesTo m i).map vStr)), (19, .sl 0 14 (m.rules.map vRule)), (20, vi m.rules.length), (21, vi i)], cM m :: Rk 14 i⟩)
    (fun i => m.rules.length - i) (fun i => i ≤ m.rules.length) 0 (by omega) ?_ ?_
  · simp only [go_sem]
    all_goals exact ⟨leV_refl _, leB_self _⟩
  rintro i hi
  have hn := namesTo_len (m := m) (i := i)
  by_cases h : i < m.rules.length
  · have hg := getRule h
    have hw : IntKind.i64.wrap (i + 1) = i + 1 := wrap_in (by omega) (by omega)
    have hB := Rk_len 14 i
    have n0 := fun L : List (List AV) => app_at0 (L := L) hB
    have s0 := fun (L : List (List AV)) z => app_set0 (L := L) (z := z) hB
    have e := namesTo_succ h
    simp only [go_sem, h, hg, hw, hB, n0, s0]
    refine ⟨by simp only [roomFor]; omega, ?_⟩
    refine roundK.intro (i + 1) (by omega) (by omega) ?_
    simp only [go_sem, Rk_succ, e, List.map_append, List.map_cons, List.map_nil]
    exact leB_RkA ⟨leC_any _ 14 rfl, trivial⟩
  obtain rfl : i = m.rules.length := by omega
  rw [namesTo_all]
  simp only [go_sem, h]
  generalize hL : namesOf m = l at *
  refine LoopK.intro (fun i : Nat => ⟨52, [(1, .pb 0 0), (2, vb false), (3, .mp 640 Tryz.prog 9 4 (metD ((l.take i).map fun s => s.data.toList))), (31, .sl 1154 1 (l.map vStr)), (32, vi l.length), (33, vi i)], cM m :: Rk 14 m.rules.length⟩)
    (fun i => l.length - i) (fun i => i ≤ l.length ∧ ∀ j, j < i → okN l j = true) 0 ⟨by omega, fun j hj => by omega⟩ ?_ ?_
  · simp only [go_sem, List.take_zero, List.map_nil]
    all_goals exact leV_refl _
  rintro i ⟨hi, hb⟩
  by_cases h : i < l.length
  · have hg := getStr h
    have hw : IntKind.i64.wrap (i + 1) = i + 1 := wrap_in (by omega) (by omega)
    have hz := hs l[i]! (mem_bangI h)
    simp only [go_sem, h, hg]
    refine CallU.free (con_word l[i]! hz) (by simp only [go_sem]) (by simp only [go_sem]) ?_
    rintro r bx rfl
    cases a1 : wordB l[i]!
    · simp only [go_sem]
      rw [names_bad h (by unfold okN; rw [a1]; rfl)]
    simp only [go_sem]
    refine CallU.free (con_keyword l[i]!) (by simp only [go_sem]) (by simp only [go_sem]) ?_
    rintro r bx rfl
    cases a2 : keywordB l[i]!
    case true =>
      simp only [go_sem]
      rw [names_bad h (by unfold okN; rw [a1, a2]; rfl)]
    simp only [go_sem]
    refine evLookup_str Tryz.underlying207 Tryz.underlying9 Tryz.underlying4 tinfo_4 rfl (by omega) ?_
    rw [metD_at]
    cases a3 : ((l.take i).map fun s => s.data.toList).contains l[i]!.data.toList
    case true =>
      simp only [go_sem]
      rw [names_bad h (by unfold okN; rw [a1, a2, a3]; rfl)]
    simp only [go_sem]
    have hlen := metD_le i ((l.take i).map fun s => s.data.toList) (by rw [List.length_map, List.length_take]; omega)
    refine evMapPut_str Tryz.underlying207 Tryz.underlying9 Tryz.underlying4 (by omega) (by omega) ?_
    rw [metD_snoc]
    simp only [go_sem, hw]
    refine roundK.intro (i + 1) ⟨by omega, fun j hj => ?_⟩ (by omega) ?_
    · by_cases hji : j = i
      · subst hji; unfold okN; rw [a1, a2, a3]; rfl
      · exact hb j (by omega)
    · simp only [go_sem, take_map_succ (fun s : ByteArray => s.data.toList) h]
      all_goals exact leV_refl _
  · simp only [go_sem, h]
    rw [names_ok (fun j hj => hb j (by omega))]
end Go.AM

/-! ## CmL -/
namespace Go.AM
open Go Go.Proofs Go.RowKit

/-- the limits of a kind: places, letters, levels, age, each from .. to .. -/
def limF (k : Int) : List Int :=
  if k = 1 ∨ k = 6 then [1, 6, 0, 0, 0, 0, 0, 0] else if k = 2 ∨ k = 3 then [1, 2, 1, 6, 0, 0, 0, 0] else if k = 4 then [0, 0, 1, 6, 1, 2, 0, 0] else [1, 6, 0, 0, 0, 0, 0, 3]
abbrev lim (k : Int) (j : Nat) : Int := (limF k).getD j 0
def limV (l : List Int) : AV := .ag [vi (l.getD 0 0), vi (l.getD 1 0), vi (l.getD 2 0), vi (l.getD 3 0), vi (l.getD 4 0), vi (l.getD 5 0), vi (l.getD 6 0), vi (l.getD 7 0)]
set_option maxRecDepth 100000 in
theorem con_of (k : Int) : Con Tryz.prog 203 [vi k] [] fun r _ => r = limV (limF k) := by
  refine Con.intro Tryz.func203 rfl Tryz.ntmps203 Tryz.results203 (by kernel_rfl) (by simp) 0 (by simp) ?_
  by_cases k1 : k = 1
  · subst k1; simp only [go_sem]; rfl
  have b1 : (k == 1) = false := beq_eq_false_iff_ne.2 k1
  by_cases k6 : k = 6
  · subst k6; simp only [go_sem]; rfl
  have b6 : (k == 6) = false := beq_eq_false_iff_ne.2 k6
  by_cases k2 : k = 2
  · subst k2; simp only [go_sem]; rfl
  have b2 : (k == 2) = false := beq_eq_false_iff_ne.2 k2
  by_cases k3 : k = 3
  · subst k3; simp only [go_sem]; rfl
  have b3 : (k == 3) = false := beq_eq_false_iff_ne.2 k3
  by_cases k4 : k = 4
  · subst k4; simp only [go_sem]; rfl
  have b4 : (k == 4) = false := beq_eq_false_iff_ne.2 k4
  have e : limF k = [1, 6, 0, 0, 0, 0, 0, 3] := by unfold limF; rw [if_neg (by omega), if_neg (by omega), if_neg (by omega)]
  rw [e]
  simp only [go_sem, b1, b6, b2, b3, b4]
  rfl
/-- right numbers of everything -/
def sizedB (m : MD) : Bool := betweenB m.states.length 1 8 && decide (m.rules.length ≤ 12) && betweenB m.places.length (lim m.kind 0) (lim m.kind 1) && betweenB m.letters.length (lim m.kind 2) (lim m.kind 3) && betweenB m.levels (lim m.kind 4) (lim m.kind 5) && betweenB m.age (lim m.kind 6) (lim m.kind 7)
set_option maxRecDepth 100000 in
set_option maxHeartbeats 4000000 in
theorem con_sized (m : MD) : Con Tryz.prog 163 [vM m] [] fun r _ => r = vb (sizedB m) := by
  refine Con.intro Tryz.func163 rfl Tryz.ntmps163 Tryz.results163 (by kernel_rfl) (by simp) 2 (by simp) ?_
  simp only [go_sem]
  refine CallU.free (con_of m.kind) (by simp only [go_sem]) (by simp only [go_sem]) ?_
  rintro r bx rfl
  simp only [go_sem, limV]
  refine CallU.free (con_between m.states.length 1 8) (by simp only [go_sem]) (by simp only [go_sem]) ?_
  rintro r bx rfl
  unfold sizedB
  cases h1 : betweenB m.states.length 1 8
  · simp only [go_sem, Bool.false_and]
  by_cases h2 : (m.rules.length : Int) ≤ 12
  case neg =>
    have h2' : ¬ m.rules.length ≤ 12 := by omega
    simp only [go_sem, h2, h2', decide_false, Bool.and_false, Bool.false_and]
  have h2' : m.rules.length ≤ 12 := by omega
  simp only [go_sem, h2, decide_true]
  refine CallU.free (con_between m.places.length (lim m.kind 0) (lim m.kind 1)) (by simp only [go_sem]) (by simp only [go_sem]) ?_
  rintro r bx rfl
  cases h3 : betweenB m.places.length (lim m.kind 0) (lim m.kind 1)
  · simp only [go_sem, Bool.false_and]
  simp only [go_sem]
  refine CallU.free (con_between m.letters.length (lim m.kind 2) (lim m.kind 3)) (by simp only [go_sem]) (by simp only [go_sem]) ?_
  rintro r bx rfl
  cases h4 : betweenB m.letters.length (lim m.kind 2) (lim m.kind 3)
  · simp only [go_sem, Bool.false_and]
  simp only [go_sem]
  refine CallU.free (con_between m.levels (lim m.kind 4) (lim m.kind 5)) (by simp only [go_sem]) (by simp only [go_sem]) ?_
  rintro r bx rfl
  cases h5 : betweenB m.levels (lim m.kind 4) (lim m.kind 5)
  · simp only [go_sem, Bool.false_and]
  simp only [go_sem]
  refine CallU.free (con_between m.age (lim m.kind 6) (lim m.kind 7)) (by simp only [go_sem]) (by simp only [go_sem]) ?_
  rintro r bx rfl
  simp only [go_sem, h2', decide_true, Bool.true_and]

/-- ranks -/
def rankedB (m : MD) : Bool := if m.kind = 3 then decide (m.ranks.length = m.letters.length) && m.ranks.all fun r => betweenB r 0 5 else m.ranks.length == 0
set_option maxRecDepth 100000 in
theorem con_ranked1 (x : Int) : Con Tryz.prog 204 [vi x] [] fun r _ => r = .sc (.bool (!betweenB x 0 5)) := by
  refine Con.intro Tryz.func204 rfl Tryz.ntmps204 Tryz.results204 (by kernel_rfl) (by simp) 0 (by simp) ?_
  simp only [go_sem]
  refine CallU.free (con_between x 0 5) (by simp only [go_sem]) (by simp only [go_sem]) ?_
  rintro r bx rfl
  simp only [go_sem]
set_option maxRecDepth 100000 in
theorem con_ranked (m : MD) (h1 : m.ranks.length ≤ 9223372036854775806) : Con Tryz.prog 164 [vM m] [] fun r _ => r = vb (rankedB m) := by
  refine Con.intro Tryz.func164 rfl Tryz.ntmps164 Tryz.results164 (by kernel_rfl) (by simp) 1 (by simp) ?_
  unfold rankedB
  by_cases k3 : m.kind = 3
  case neg =>
    have b3 : (m.kind != 3) = true := bne_iff_ne.2 k3
    rw [if_neg k3]
    simp only [go_sem, b3]
    congr 2
    rw [Bool.eq_iff_iff]; simp
  rw [if_pos k3]
  have b3 : (m.kind != 3) = false := by rw [k3]; rfl
  by_cases hl : m.ranks.length = m.letters.length
  case neg =>
    have hl' : ((m.ranks.length : Int) == (m.letters.length : Int)) = false := beq_eq_false_iff_ne.2 (by omega)
    simp only [go_sem, b3, hl', hl, decide_false, Bool.false_and]
  have hl' : ((m.ranks.length : Int) == (m.letters.length : Int)) = true := beq_iff_eq.2 (by omega)
  simp only [go_sem, b3, hl']
  refine CallU.free (con_containsInt m.ranks 204 [] (fun r => !betweenB r 0 5) rfl (fun x _ => con_ranked1 x) h1) (by simp only [go_sem]) (by simp only [go_sem]) ?_
  rintro r bx rfl
  simp only [go_sem, any_not, hl, decide_true, Bool.true_and]
end Go.AM

/-! ## CmM -/
namespace Go.AM
open Go Go.Proofs Go.RowKit

set_option maxRecDepth 100000 in
theorem con_changes1 (x : Int) : Con Tryz.prog 239 [vi x] [] fun r _ => r = .sc (.bool (betweenB x 0 16)) := by
  refine Con.intro Tryz.func239 rfl Tryz.ntmps239 Tryz.results239 (by kernel_rfl) (by simp) 0 (by simp) ?_
  simp only [go_sem]
  refine CallU.free (con_between x 0 16) (by simp only [go_sem]) (by simp only [go_sem]) ?_
  rintro r bx rfl
  simp only [go_sem]
/-- the lists are not too long -/
structure RD.Len (r : RD) : Prop where
  need : r.need.length ≤ 9223372036854775806
  give : r.give.length ≤ 9223372036854775806
  move : r.move.length ≤ 9223372036854775806
  path : r.path.length ≤ 9223372036854775806
  next : r.next.length ≤ 9223372036854775806
  takes : r.takes.length ≤ 9223372036854775806
  makes : r.makes.length ≤ 9223372036854775806
set_option maxRecDepth 100000 in
set_option maxHeartbeats 1000000 in
theorem con_changes (m : MD) (r : RD) (hl : r.Len) : Con Tryz.prog 210 [vM m, vRule r] [] fun x _ => x = vb (changesB m.places.length r) := by
  refine Con.intro Tryz.func210 rfl Tryz.ntmps210 Tryz.results210 (by kernel_rfl) (by simp) 2 (by simp) ?_
  unfold changesB
  by_cases h1 : r.need.length = m.places.length
  case neg =>
    have h1' : ((r.need.length : Int) == (m.places.length : Int)) = false := beq_eq_false_iff_ne.2 (by omega)
    simp only [go_sem, h1', h1, decide_false, Bool.false_and]
  have h1' : ((r.need.length : Int) == (m.places.length : Int)) = true := beq_iff_eq.2 (by omega)
  by_cases h2 : r.give.length = m.places.length
  case neg =>
    have h2' : ((r.give.length : Int) == (m.places.length : Int)) = false := beq_eq_false_iff_ne.2 (by omega)
    simp only [go_sem, h1', h2', h2, decide_false, Bool.false_and, Bool.and_false]
  have h2' : ((r.give.length : Int) == (m.places.length : Int)) = true := beq_iff_eq.2 (by omega)
  simp only [go_sem, h1', h2']
  refine CallU.free (con_all r.need 239 [] (fun x => betweenB x 0 16) rfl (fun x _ => con_changes1 x) hl.need) (by simp only [go_sem]) (by simp only [go_sem]) ?_
  rintro x bx rfl
  change _ ∧ _
  cases h3 : smallB r.need
  · have h3' : (r.need.all fun x => betweenB x 0 16) = false := h3
    simp only [go_sem, h3', Bool.false_and, Bool.and_false]
  have h3' : (r.need.all fun x => betweenB x 0 16) = true := h3
  simp only [go_sem, h3']
  refine CallU.free (con_all r.give 239 [] (fun x => betweenB x 0 16) rfl (fun x _ => con_changes1 x) hl.give) (by simp only [go_sem]) (by simp only [go_sem]) ?_
  rintro x bx rfl
  simp only [go_sem, h1, h2, decide_true, Bool.true_and]
  rfl
set_option maxRecDepth 100000 in
theorem con_moves1 (x : Int) (n : Nat) (hn : n ≤ 1000000) : Con Tryz.prog 240 [vi x, .fp [vi n] 0] [] fun r _ => r = .sc (.bool (betweenB x (-1) (n - 1))) := by
  refine Con.intro Tryz.func240 rfl Tryz.ntmps240 Tryz.results240 (by kernel_rfl) (by simp) 0 (by simp) ?_
  have hw : IntKind.i64.wrap ((n : Int) - 1) = n - 1 := wrap_in (by omega) (by omega)
  simp only [go_sem, hw]
  refine CallU.free (con_between x (-1) (n - 1)) (by simp only [go_sem]) (by simp only [go_sem]) ?_
  rintro r bx rfl
  simp only [go_sem]
set_option maxRecDepth 100000 in
set_option maxHeartbeats 1000000 in
theorem con_moves (m : MD) (r : RD) (hl : r.Len) (hm : m.places.length ≤ 1000000) : Con Tryz.prog 211 [vM m, vRule r] [] fun x _ => x = vb (movesB m.places.length r) := by
  refine Con.intro Tryz.func211 rfl Tryz.ntmps211 Tryz.results211 (by kernel_rfl) (by simp) 3 (by simp) ?_
  unfold movesB
  by_cases h1 : r.move.length = 0
  · have h1' : ((r.move.length : Int) == 0) = true := beq_iff_eq.2 (by omega)
    simp only [go_sem, h1]
    all_goals simp
  have h1' : ((r.move.length : Int) == 0) = false := beq_eq_false_iff_ne.2 (by omega)
  have h1n : (r.move.length == 0) = false := beq_eq_false_iff_ne.2 h1
  by_cases h2 : r.move.length = m.places.length
  case neg =>
    have h2' : ((r.move.length : Int) == (m.places.length : Int)) = false := beq_eq_false_iff_ne.2 (by omega)
    simp only [go_sem, h1', h2', h1n, h2, decide_false, Bool.false_and, Bool.or_false]
  have h2' : ((r.move.length : Int) == (m.places.length : Int)) = true := beq_iff_eq.2 (by omega)
  simp only [go_sem, h1', h2']
  refine CallU.look (con_all r.move 240 [.fp [vi m.places.length] 0] (fun x => betweenB x (-1) (m.places.length - 1)) (by simp only [go_sem]) (fun x _ => con_moves1 x m.places.length hm) hl.move) (by simp only [go_sem]) (by simp only [go_sem]) ?_
  rintro x bx rfl
  simp only [go_sem]
  rw [h1n, decide_eq_true h2]; simp

/-! ### equal rules -/
theorem getTake {l : List (Int × Int × Int)} {i : Nat} (h : i < l.length) : (l.map vTake)[i]? = some (.ag [.sc (.int .i64 l[i]!.1), .sc (.int .i64 l[i]!.2.1), .sc (.int .i64 l[i]!.2.2)]) := by
  rw [List.getElem?_map, List.getElem?_eq_getElem h, getElem!_pos l i h, Option.map_some]; rfl
theorem eqA_stop {α : Type} [BEq α] [LawfulBEq α] [Inhabited α] {a b : List α} {i : Nat} (h : a[i]! ≠ b[i]!) : (a == b) = false := by
  rw [beq_eq_false_iff_ne]; intro e; rw [e] at h; exact h rfl
theorem eqA_all {α : Type} [BEq α] [LawfulBEq α] [Inhabited α] {a b : List α} (hl : a.length = b.length) (h : ∀ j, j < a.length → a[j]! = b[j]!) : (a == b) = true := by
  rw [beq_iff_eq]
  apply List.ext_getElem hl
  intro i h1 h2
  have := h i h1
  rw [getElem!_pos a i h1, getElem!_pos b i h2] at this; exact this
theorem eqA_len {α : Type} [BEq α] [LawfulBEq α] {a b : List α} (h : a.length ≠ b.length) : (a == b) = false := by
  rw [beq_eq_false_iff_ne]; intro e; rw [e] at h; exact h rfl
@[go_sem] theorem flat_173 : flatF Tryz.prog 173 = some [(0, true), (1, true), (2, true)] := by kernel_rfl
set_option maxRecDepth 100000 in
theorem con_equalTake (a b : List (Int × Int × Int)) (hl : a.length ≤ 9223372036854775806) : Con Tryz.prog 247 [.sl 0 3 (a.map vTake), .sl 0 3 (b.map vTake)] [] fun r _ => r = .sc (.bool (a == b)) := by
  refine Con.intro Tryz.func247 rfl Tryz.ntmps247 Tryz.results247 (by kernel_rfl) (by simp) 0 (by simp) ?_
  by_cases he : a.length = b.length
  case neg =>
    have he' : ((a.length : Int) != (b.length : Int)) = true := bne_iff_ne.2 (by omega)
    simp only [go_sem, he', eqA_len he]
  simp only [go_sem, he]
  refine LoopK.intro (fun i : Nat => ⟨26, [(0, .sl 0 3 (a.map vTake)), (1, .sl 0 3 (b.map vTake)), (12, vi a.length), (13, vi i)], []⟩)
    (fun i => a.length - i) (fun i => i ≤ a.length ∧ ∀ j, j < i → a[j]! = b[j]!) 0 ⟨by omega, fun j hj => by omega⟩ ?_ ?_
  · simp only [go_sem, he]
    all_goals exact leV_refl _
  rintro i ⟨hi, hb⟩
  by_cases h : i < a.length
  · have h2 : i < b.length := by omega
    have g1 := getTake h
    have g2 := getTake h2
    have hw : IntKind.i64.wrap (i + 1) = i + 1 := wrap_in (by omega) (by omega)
    simp only [go_sem, h]
    refine DrawK.walk 9 mixed (by kernel_rfl) ?_
    by_cases hp : a[i]! = b[i]!
    · simp only [go_sem, h, h2, g1, g2, hp, hw]
      refine roundK.intro (i + 1) ⟨by omega, fun j hj => ?_⟩ (by omega) ?_
      · by_cases hji : j = i
        · subst hji; exact hp
        · exact hb j (by omega)
      · simp only [go_sem]
    · have hp' : (a[i]!.fst == b[i]!.fst && (a[i]!.snd.fst == b[i]!.snd.fst && a[i]!.snd.snd == b[i]!.snd.snd)) = false := by
        rw [Bool.eq_false_iff]
        intro hh
        simp only [Bool.and_eq_true, beq_iff_eq] at hh
        exact hp (Prod.ext hh.1 (Prod.ext hh.2.1 hh.2.2))
      simp only [go_sem, h, h2, g1, g2, hp']
      rw [eqA_stop hp]
  · simp only [go_sem, h]
    rw [eqA_all he (fun j hj => hb j (by omega))]
set_option maxRecDepth 100000 in
set_option maxHeartbeats 2000000 in
theorem con_same_self (a : RD) (hl : a.Len) : Con Tryz.prog 217 [vRule a, vRule a] [] fun x _ => x = vb true := by
  refine Con.intro Tryz.func217 rfl Tryz.ntmps217 Tryz.results217 (by kernel_rfl) (by simp) 2 (by simp) ?_
  dsimp only [List.append]
  simp only [go_sem, beq_self_eq_true]
  refine CallU.free (con_equalInt a.need a.need (hl.need)) (by simp only [go_sem]) (by simp only [go_sem]) ?_
  rintro r bx rfl
  simp only [go_sem, beq_self_eq_true]
  refine CallU.free (con_equalInt a.give a.give (hl.give)) (by simp only [go_sem]) (by simp only [go_sem]) ?_
  rintro r bx rfl
  simp only [go_sem, beq_self_eq_true]
  refine CallU.free (con_equalInt a.move a.move (hl.move)) (by simp only [go_sem]) (by simp only [go_sem]) ?_
  rintro r bx rfl
  simp only [go_sem, beq_self_eq_true]
  refine CallU.free (con_equalInt a.path a.path (hl.path)) (by simp only [go_sem]) (by simp only [go_sem]) ?_
  rintro r bx rfl
  simp only [go_sem, beq_self_eq_true]
  refine CallU.free (con_equalInt a.next a.next (hl.next)) (by simp only [go_sem]) (by simp only [go_sem]) ?_
  rintro r bx rfl
  simp only [go_sem, beq_self_eq_true]
  refine CallU.free (con_equalTake a.takes a.takes (hl.takes)) (by simp only [go_sem]) (by simp only [go_sem]) ?_
  rintro r bx rfl
  simp only [go_sem, beq_self_eq_true]
  refine CallU.free (con_equalInt a.makes a.makes (hl.makes)) (by simp only [go_sem]) (by simp only [go_sem]) ?_
  rintro r bx rfl
  simp only [go_sem, beq_self_eq_true]
end Go.AM

/-! ## CmN -/
namespace Go.AM
open Go Go.Proofs Go.RowKit

theorem Con.leA {P : Program} {f : FuncId} {args args' : List AV} {bx : List (List AV)} {post : AV → List (List AV) → Prop} (h : Con P f args bx post) (ha : leC args' args) : Con P f args' bx post :=
  h.args fun _ _ _ hv => leC_pw ha hv
/-- all orders of a drawn region end in a frame that says no more than τ: what follows is walked from τ, once -/
theorem DrawK.meet {P : Program} {ops : Array Oper} {σ : St} {K : St → Prop} (τ : St) (h : DrawK P ops σ fun σ' => σ'.le τ) (hk : K τ) : DrawK P ops σ K :=
  fun G0 w0 G a w id Q t hs hQ => h G0 w0 G a w id Q t hs fun _ G' a' w' hl h' => hQ τ G' a' w' hk (h'.le hl)
theorem andK_mk {p q : Prop} (h1 : p) (h2 : q) : andK p q := ⟨h1, h2⟩
def rightTree : Tr := .front 0 (.front 2 (.front 4 (.alt (.one 1 (.front 6 (.alt (.one 3 (.alt (.one 5 (.one 7 (.front 8 (.one 9 (.front 10 (.one 11 .done)))))) (.one 7 (.front 8 (.alt (.one 5 (.one 9 (.front 10 (.one 11 .done)))) (.one 9 (.one 5 (.front 10 (.one 11 .done))))))))) (.alt (.one 5 (.alt (.one 3 (.one 7 (.front 8 (.one 9 (.front 10 (.one 11 .done)))))) (.one 7 (.one 3 (.front 8 (.one 9 (.front 10 (.one 11 .done)))))))) (.one 7 (.alt (.one 3 (.front 8 (.alt (.one 5 (.one 9 (.front 10 (.one 11 .done)))) (.one 9 (.one 5 (.front 10 (.one 11 .done))))))) (.one 5 (.one 3 (.front 8 (.one 9 (.front 10 (.one 11 .done)))))))))))) (.alt (.one 3 (.alt (.one 1 (.front 6 (.alt (.one 5 (.one 7 (.front 8 (.one 9 (.front 10 (.one 11 .done)))))) (.one 7 (.front 8 (.alt (.one 5 (.one 9 (.front 10 (.one 11 .done)))) (.one 9 (.one 5 (.front 10 (.one 11 .done)))))))))) (.one 5 (.one 1 (.front 6 (.one 7 (.front 8 (.one 9 (.front 10 (.one 11 .done)))))))))) (.one 5 (.alt (.one 1 (.front 6 (.alt (.one 3 (.one 7 (.front 8 (.one 9 (.front 10 (.one 11 .done)))))) (.one 7 (.one 3 (.front 8 (.one 9 (.front 10 (.one 11 .done))))))))) (.one 3 (.one 1 (.front 6 (.one 7 (.front 8 (.one 9 (.front 10 (.one 11 .done))))))))))))))
theorem nil_of {α : Type} {l : List α} (h : (l.length == 0) = true) : l = [] := List.eq_nil_of_length_eq_zero (by simpa using h)
theorem bare_of {r : RD} (h : bareB r = true) : r = ⟨r.name, r.src, r.dst, r.need, r.give, r.move, 0, 0, 0, [], [], [], [], 0⟩ := by
  unfold bareB at h
  simp only [Bool.and_eq_true, beq_iff_eq] at h
  obtain ⟨⟨⟨⟨⟨⟨⟨h1, h2⟩, h3⟩, h4⟩, h5⟩, h6⟩, h7⟩, h8⟩ := h
  obtain ⟨a, b, c, d, e, f, g, h, i, j, k, l, m, n⟩ := r
  simp only at h1 h2 h3 h4 h5 h6 h7 h8
  rw [h1, h2, h3, List.eq_nil_of_length_eq_zero h4, List.eq_nil_of_length_eq_zero h5, List.eq_nil_of_length_eq_zero h6, List.eq_nil_of_length_eq_zero h7, h8]
abbrev bareR (nm : ByteArray) (s d : Int) (nd gv mv : List Int) : RD := ⟨nm, s, d, nd, gv, mv, 0, 0, 0, [], [], [], [], 0⟩
theorem con_same_only (nm : ByteArray) (s d : Int) (nd gv mv : List Int) (hl : (bareR nm s d nd gv mv).Len) : Con Tryz.prog 217 [vRule (bareR nm s d nd gv mv), .ag [vStr nm, vi s, vi d, vs 0 nd, vs 0 gv, vs 0 mv, vi 0, vi 0, vi 0, .nil, .nil, .nil, .nil, vi 0]] [] fun x _ => x = vb true :=
  (con_same_self _ hl).leA ⟨leV_refl _, leV_ag ⟨leV_refl _, leV_refl _, leV_refl _, leV_refl _, leV_refl _, leV_refl _, leV_refl _, leV_refl _, leV_refl _, leV_nil 0 1, leV_nil 0 1, leV_nil 0 3, leV_nil 0 1, leV_refl _, trivial⟩, trivial⟩
set_option maxRecDepth 100000 in
set_option maxHeartbeats 1000000 in
theorem con_right (m : MD) (r : RD) (hk : m.kind = 1) (hs : m.states.length ≤ 1000000) (hp : m.places.length ≤ 1000000) (hl : r.Len) (hr : ruleB m.states.length m.places.length r = true) (hb : bareB r = true) : Con Tryz.prog 168 [vM m, vRule r] [] fun x _ => x = vb true := by
  obtain ⟨nm, s, d, nd, gv, mv, rfl⟩ : ∃ nm s d nd gv mv, r = bareR nm s d nd gv mv := ⟨_, _, _, _, _, _, bare_of hb⟩
  refine Con.intro Tryz.func168 rfl Tryz.ntmps168 Tryz.results168 (by kernel_rfl) (by simp) 3 (by simp) ?_
  unfold ruleB indexB at hr
  simp only [Bool.and_eq_true] at hr
  obtain ⟨⟨⟨h1, h2⟩, h3⟩, h4⟩ := hr
  have h1 : (decide (0 ≤ d) && decide (d < (m.states.length : Int))) = true := by rw [Bool.and_eq_true]; exact h1
  have h2 : (decide (0 ≤ s) && decide (s < (m.states.length : Int))) = true := by rw [Bool.and_eq_true]; exact h2
  simp only [go_sem, List.map_nil]
  refine CallU.free (con_index d m.states.length (by omega) (by omega)) (by simp only [go_sem]) (by simp only [go_sem]) ?_
  rintro x bx rfl
  simp only [go_sem, h1]
  refine CallU.free (con_index s m.states.length (by omega) (by omega)) (by simp only [go_sem]) (by simp only [go_sem]) ?_
  rintro x bx rfl
  simp only [go_sem, h2, hk]
  refine DrawK.meet ⟨142, [(2, .pb 0 0), (3, .pb 1 0), (4, vb false), (6, .pb 2 0)], [cM m, [vStr nm, vi s, vi d, vs 0 nd, vs 0 gv, vs 0 mv, vi 0, vi 0, vi 0, vs 0 [], vs 0 [], .sl 0 3 [], vs 0 [], vi 0], [vStr nm, vi s, vi d, vs 0 nd, vs 0 gv, vs 0 mv, vi 0, vi 0, vi 0, .nil, .nil, .nil, .nil, vi 0]]⟩ ?_ ?_
  · refine DrawK.tree rightTree mixed (by kernel_rfl) ?_
    unfold rightTree
    repeat' (first | with_reducible apply andK_mk | simp only [go_sem, hk, List.map_nil])
  · simp only [go_sem]
    refine CallU.free (con_changes m (bareR nm s d nd gv mv) hl) (by simp only [go_sem]) (by simp only [go_sem, hk, List.map_nil]) ?_
    rintro x bx rfl
    simp only [go_sem, h3]
    refine CallU.free (con_moves m (bareR nm s d nd gv mv) hl hp) (by simp only [go_sem]) (by simp only [go_sem, hk, List.map_nil]) ?_
    rintro x bx rfl
    simp only [go_sem, h4]
    refine CallU.free (con_same_only nm s d nd gv mv hl) (by simp only [go_sem]) (by simp only [go_sem, List.map_nil]) ?_
    rintro x bx rfl
    simp only [go_sem]
set_option maxRecDepth 100000 in
theorem con_check1 (m : MD) (r : RD) (hk : m.kind = 1) (hs : m.states.length ≤ 1000000) (hp : m.places.length ≤ 1000000) (hl : r.Len) (hr : ruleB m.states.length m.places.length r = true) (hb : bareB r = true) : Con Tryz.prog 167 [vRule r, .fp (cM m) 0] [] fun x _ => x = .sc (.bool false) := by
  refine Con.intro Tryz.func167 rfl Tryz.ntmps167 Tryz.results167 (by kernel_rfl) (by simp) 1 (by simp) ?_
  simp only [go_sem]
  refine CallU.free (con_right m r hk hs hp hl hr hb) (by simp only [go_sem]) (by simp only [go_sem]) ?_
  rintro x bx rfl
  simp only [go_sem]
end Go.AM

/-! ## CmO -/
namespace Go.AM
open Go Go.Proofs Go.RowKit

/-- a type without parts: its kind, its size -/
def vPT (p : Int × Int) : AV := .ag [vi p.1, vi p.2, .nil, .nil]
/-- a tuple of a label and numbers -/
def partsP (ns np : Nat) : List (Int × Int) := (2, (ns : Int)) :: List.replicate np (1, 0)
def flatT (t : Nat) (ps : List (Int × Int)) : AV := .ag [vi 3, vi 0, .nil, .sl t 4 (ps.map vPT)]
attribute [go_sem] vPT flatT
theorem parts_len (ns np : Nat) : (partsP ns np).length = np + 1 := by simp [partsP]
theorem parts_succ (ns i : Nat) : partsP ns (i + 1) = partsP ns i ++ [(1, 0)] := by unfold partsP; rw [List.replicate_succ']; rfl
theorem getPT {l : List (Int × Int)} {i : Nat} (h : i < l.length) : (l.map vPT)[i]? = some (.ag [.sc (.int .i64 l[i]!.1), .sc (.int .i64 l[i]!.2), .nil, .nil]) := by
  rw [List.getElem?_map, List.getElem?_eq_getElem h, getElem!_pos l i h, Option.map_some]; rfl
set_option maxRecDepth 100000 in
theorem con_label (n : Nat) : Con Tryz.prog 197 [vi n] [] fun r _ => r = vPT (2, n) := by
  refine Con.intro Tryz.func197 rfl Tryz.ntmps197 Tryz.results197 (by kernel_rfl) (by simp) 0 (by simp) ?_
  simp only [go_sem]
set_option maxRecDepth 100000 in
set_option maxHeartbeats 1000000 in
theorem con_typed (m : MD) (hk : m.kind = 1) (hp : m.places.length ≤ 1000000) : Con Tryz.prog 157 [vM m] [] fun r _ => r = flatT 2 (partsP m.states.length m.places.length) := by
  refine Con.intro Tryz.func157 rfl Tryz.ntmps157 Tryz.results157 (by kernel_rfl) (by simp) 0 (by simp) ?_
  simp only [go_sem, hk]
  refine CallU.free (con_label m.states.length) (by simp only [go_sem]) (by simp only [go_sem]) ?_
  rintro r bx rfl
  simp only [go_sem]
  refine LoopK.intro (fun i : Nat => ⟨70, [(1, .pb 0 0), (2, .pb 1 0), (3, .sl 640 4 ((partsP m.states.length i).map vPT)), (14, vi m.places.length), (15, vi i)], cM m :: [.any, .any, .any, .any] :: Rk 4 i⟩)
    (fun i => m.places.length - i) (fun i => i ≤ m.places.length) 0 (by omega) ?_ ?_
  · simp only [go_sem, hk, partsP, List.replicate_zero, List.map_cons, List.map_nil]
    exact leB_self _
  rintro i hi
  by_cases h : i < m.places.length
  · have hw : IntKind.i64.wrap (i + 1) = i + 1 := wrap_in (by omega) (by omega)
    have hB := Rk_len 4 i
    have n0 := fun L : List (List AV) => app_at0 (L := L) hB
    have s0 := fun (L : List (List AV)) z => app_set0 (L := L) (z := z) hB
    have e := parts_succ m.states.length i
    simp only [go_sem, h, hk, hw, hB, n0, s0]
    refine ⟨by simp only [roomFor, parts_len]; omega, ?_⟩
    refine roundK.intro (i + 1) (by omega) (by omega) ?_
    simp only [go_sem, Rk_succ, e, List.map_append, List.map_cons, List.map_nil]
    exact leB_RkA ⟨leC_any _ 4 rfl, trivial⟩
  · obtain rfl : i = m.places.length := by omega
    simp only [go_sem, h]

/-! ### right types -/
def TellsP (f : FuncId) (caps : List AV) (l : List (Int × Int)) (p : Int × Int → Bool) : Prop := ∀ x ∈ l, Con Tryz.prog f ([vPT x] ++ caps) [] fun r _ => r = .sc (.bool (p x))
set_option maxRecDepth 100000 in
theorem con_indexPT (l : List (Int × Int)) (f : FuncId) (caps : List AV) (p : Int × Int → Bool) (hc : mapTops (viewV []) caps = caps) (hf : TellsP f caps l p) (hl : l.length ≤ 9223372036854775806) : Con Tryz.prog 263 [.sl 0 4 (l.map vPT), .fn f caps] [] fun r _ => r = vi (findI p l) := by
  refine Con.intro Tryz.func263 rfl Tryz.ntmps263 Tryz.results263 (by kernel_rfl) (by simp) 0 (by simp) ?_
  simp only [go_sem]
  refine LoopK.intro (fun i : Nat => ⟨19, [(0, .sl 0 4 (l.map vPT)), (1, .fn f caps), (7, vi l.length), (8, vi i)], []⟩)
    (fun i => l.length - i) (fun i => i ≤ l.length ∧ ∀ j, j < i → p l[j]! = false) 0 ⟨by omega, fun j hj => by omega⟩ ?_ ?_
  · simp only [go_sem]
    all_goals exact leV_refl _
  · rintro i ⟨hi, hb⟩
    by_cases h : i < l.length
    · have hg := getPT h
      have hw : IntKind.i64.wrap (i + 1) = i + 1 := wrap_in (by omega) (by omega)
      simp only [go_sem, h, hg]
      refine CallU.look (hf l[i]! (mem_bangI h)) (by simp only [go_sem]) (by simp only [go_sem, hc]) ?_
      rintro r bx rfl
      cases hp : p l[i]!
      · simp only [go_sem, hw]
        refine roundK.intro (i + 1) ⟨by omega, fun j hj => ?_⟩ (by omega) ?_
        · by_cases hji : j = i
          · subst hji; exact hp
          · exact hb j (by omega)
        · simp only [go_sem]
      · simp only [go_sem]
        rw [findI_stop h hb hp]
    · simp only [go_sem, h]
      rw [findI_none (fun j hj => hb j (by omega))]
set_option maxRecDepth 100000 in
theorem con_containsPT (l : List (Int × Int)) (f : FuncId) (caps : List AV) (p : Int × Int → Bool) (hc : mapTops (viewV []) caps = caps) (hf : TellsP f caps l p) (hl : l.length ≤ 9223372036854775806) : Con Tryz.prog 249 [.sl 0 4 (l.map vPT), .fn f caps] [] fun r _ => r = .sc (.bool (l.any p)) := by
  refine Con.intro Tryz.func249 rfl Tryz.ntmps249 Tryz.results249 (by kernel_rfl) (by simp) 0 (by simp) ?_
  simp only [go_sem]
  refine CallU.look (con_indexPT l f caps p hc hf hl) (by simp only [go_sem]) (by simp only [go_sem]) ?_
  rintro r bx rfl
  simp only [go_sem, findI_ge]
/-- a type of numbers, or of 1 to 16 labels -/
def LeafP (p : Int × Int) : Prop := p = (1, 0) ∨ p.1 = 2 ∧ 1 ≤ p.2 ∧ p.2 ≤ 16
set_option maxRecDepth 100000 in
theorem con_rightLeaf (p : Int × Int) (d : Int) (hd : d ≠ 0) (hp : LeafP p) : Con Tryz.prog 224 [vPT p, vi d] [] fun r _ => r = vb true := by
  refine Con.intro Tryz.func224 rfl Tryz.ntmps224 Tryz.results224 (by kernel_rfl) (by simp) 2 (by simp) ?_
  have hd' : (d == 0) = false := beq_eq_false_iff_ne.2 hd
  obtain ⟨k, s⟩ := p
  rcases hp with hp | ⟨rfl, h1, h2⟩
  · cases hp
    simp only [go_sem, hd']
  · simp only at h1 h2
    simp only [go_sem, hd', h1, h2]
set_option maxRecDepth 100000 in
theorem con_right1 (p : Int × Int) (hp : LeafP p) : Con Tryz.prog 250 [vPT p, .fp [vi 8] 0] [] fun r _ => r = .sc (.bool false) := by
  refine Con.intro Tryz.func250 rfl Tryz.ntmps250 Tryz.results250 (by kernel_rfl) (by simp) 1 (by simp) ?_
  have hw : IntKind.i64.wrap 7 = 7 := wrap_in (by omega) (by omega)
  simp only [go_sem, hw]
  refine CallU.free (con_rightLeaf p 7 (by omega) hp) (by simp only [go_sem]) (by simp only [go_sem]) ?_
  rintro r bx rfl
  simp only [go_sem]
theorem any_false {α : Type} (l : List α) : (l.any fun _ => false) = false := by simp
set_option maxRecDepth 100000 in
theorem con_rightFlat (ps : List (Int × Int)) (h1 : 1 ≤ ps.length) (h2 : ps.length ≤ 8) (hp : ∀ p ∈ ps, LeafP p) : Con Tryz.prog 224 [flatT 0 ps, vi 8] [] fun r _ => r = vb true := by
  refine Con.intro Tryz.func224 rfl Tryz.ntmps224 Tryz.results224 (by kernel_rfl) (by simp) 2 (by simp) ?_
  have a1 : ((ps.length : Int) == 0) = false := beq_eq_false_iff_ne.2 (by omega)
  have a2 : ¬ ((8 : Int) < ps.length) := by omega
  simp only [go_sem, a1, a2]
  refine CallU.look (con_containsPT ps 250 [.fp [vi 8] 0] (fun _ => false) (by simp only [go_sem]) (fun x hx => con_right1 x (hp x hx)) (by omega)) (by simp only [go_sem]) (by simp only [go_sem]) ?_
  rintro r bx rfl
  simp only [go_sem, any_false]
set_option maxRecDepth 100000 in
theorem con_ocheck (ps : List (Int × Int)) (h1 : 1 ≤ ps.length) (h2 : ps.length ≤ 8) (hp : ∀ p ∈ ps, LeafP p) : Con Tryz.prog 194 [flatT 0 ps] [] fun r _ => r = vi 0 := by
  refine Con.intro Tryz.func194 rfl Tryz.ntmps194 Tryz.results194 (by kernel_rfl) (by simp) 1 (by simp) ?_
  simp only [go_sem]
  refine CallU.free (con_rightFlat ps h1 h2 hp) (by simp only [go_sem]) (by simp only [go_sem]) ?_
  rintro r bx rfl
  simp only [go_sem]
end Go.AM

/-! ## CmP -/
namespace Go.AM
open Go Go.Proofs Go.RowKit

mutual
/-- the number of nodes, or more than 'most' -/
def countV : CV → Int → Int
  | .mk _ kids, most => countVs kids most 1
def countVs : List CV → Int → Int → Int
  | [], _, n => n
  | k :: l, most, n => if most < n then n else countVs l most (n + countV k (most - n))
end
mutual
theorem countV_bnd : ∀ (v : CV) (most : Int), 0 ≤ most → 1 ≤ countV v most ∧ countV v most ≤ most + 1
  | .mk _ kids, most, h => by
    have := countVs_bnd kids most 1 h (by omega) (by omega)
    rw [countV]; exact this
theorem countVs_bnd : ∀ (l : List CV) (most n : Int), 0 ≤ most → 1 ≤ n → n ≤ most + 1 → 1 ≤ countVs l most n ∧ countVs l most n ≤ most + 1
  | [], most, n, h, h1, h2 => by rw [countVs]; exact ⟨h1, h2⟩
  | k :: l, most, n, h, h1, h2 => by
    rw [countVs]
    by_cases hm : most < n
    · rw [if_pos hm]; exact ⟨h1, h2⟩
    · rw [if_neg hm]
      have := countV_bnd k (most - n) (by omega)
      exact countVs_bnd l most _ h (by omega) (by omega)
end
theorem drop_kid {l : List CV} {i : Nat} (h : i < l.length) : l.drop i = l[i]! :: l.drop (i + 1) := by
  rw [List.drop_eq_getElem_cons h, getElem!_pos l i h]
set_option maxRecDepth 100000 in
theorem con_count (v : CV) (most : Int) (h1 : 0 ≤ most) (h2 : most ≤ 128) (hv : v.Ok) : Con Tryz.prog 225 [vV v, vi most] [] fun r _ => r = vi (countV v most) := by
  have key : ∀ (s : Nat) (v : CV) (most : Int), SizeOf.sizeOf v ≤ s → 0 ≤ most → most ≤ 128 → v.Ok → Con Tryz.prog 225 [vV v, vi most] [] fun r _ => r = vi (countV v most) := by
    intro s
    induction s with
    | zero => intro v _ hs; cases v; rw [CV.mk.sizeOf_spec] at hs; omega
    | succ s ih =>
      intro v most hs h1 h2 hv
      have hlen := hv.len
      have e0 : countV v most = countVs v.kids most 1 := by cases v; rw [countV]; rfl
      rw [vV_eq, e0]
      refine Con.intro Tryz.func225 rfl Tryz.ntmps225 Tryz.results225 (by kernel_rfl) (by simp) 1 (by simp) ?_
      simp only [go_sem]
      refine LoopK.intro (fun q : Nat × Int => ⟨27, [(1, vi most), (2, .pb 0 0), (5, vi q.2), (9, .sl 0 2 (v.kids.map vV)), (10, vi v.kids.length), (11, vi q.1)], [vi v.n, .sl 0 2 (v.kids.map vV)] :: Rk 2 q.1⟩)
        (fun q => v.kids.length - q.1) (fun q => q.1 ≤ v.kids.length ∧ 1 ≤ q.2 ∧ q.2 ≤ most + 1 ∧ countVs (v.kids.drop q.1) most q.2 = countVs v.kids most 1) (0, 1) ⟨by simp, by simp, by show (1 : Int) ≤ most + 1; omega, rfl⟩ ?_ ?_
      · simp only [go_sem]
        exact leB_self _
      rintro ⟨i, n⟩ ⟨hi, hn1, hn2, he⟩
      simp only at hi hn1 hn2 he
      by_cases h : i < v.kids.length
      · have hg := getvV h
        have hw : IntKind.i64.wrap (i + 1) = i + 1 := wrap_in (by omega) (by omega)
        have hB := Rk_len 2 i
        have n0 := fun L : List (List AV) => app_at0 (L := L) hB
        have s0 := fun (L : List (List AV)) z => app_set0 (L := L) (z := z) hB
        rw [drop_kid h, countVs] at he
        by_cases hm : most < n
        · rw [if_pos hm] at he
          simp only [go_sem, h, hg, hB, n0, s0, hm]
          rw [he]
        · rw [if_neg hm] at he
          have hmem : v.kids[i]! ∈ v.kids := mem_bangI h
          have hk := countV_bnd v.kids[i]! (most - n) (by omega)
          have hw2 : IntKind.i64.wrap (most - n) = most - n := wrap_in (by omega) (by omega)
          have hw3 : IntKind.i64.wrap (n + countV v.kids[i]! (most - n)) = n + countV v.kids[i]! (most - n) := wrap_in (by omega) (by omega)
          simp only [go_sem, h, hg, hB, n0, s0, hm, hw2]
          refine CallU.free (ih v.kids[i]! (most - n) (by have := kid_size hmem; omega) (by omega) (by omega) (hv.kid hmem)) (by simp only [go_sem]) (by simp only [go_sem, vV_eq]) ?_
          rintro r bx rfl
          simp only [go_sem, hw, hw3]
          refine roundK.intro (i + 1, n + countV v.kids[i]! (most - n)) ⟨by show i + 1 ≤ _; omega, by show 1 ≤ n + _; omega, by show n + _ ≤ most + 1; omega, he⟩ (by show v.kids.length - (i + 1) < v.kids.length - i; omega) ?_
          simp only [go_sem, Rk_succ]
          exact leB_RkA ⟨leC_any _ 2 rfl, trivial⟩
      · obtain rfl : i = v.kids.length := by omega
        rw [List.drop_length, countVs] at he
        simp only [go_sem, h, he]
  exact key _ v most (Nat.le_refl _) h1 h2 hv
set_option maxRecDepth 100000 in
theorem con_size (v : CV) (hv : v.Ok) : Con Tryz.prog 195 [vV v] [] fun r _ => r = vi (countV v 128) := by
  rw [vV_eq]
  refine Con.intro Tryz.func195 rfl Tryz.ntmps195 Tryz.results195 (by kernel_rfl) (by simp) 1 (by simp) ?_
  simp only [go_sem]
  refine CallU.free (con_count v 128 (by omega) (by omega) hv) (by simp only [go_sem]) (by simp only [go_sem, vV_eq]) ?_
  rintro r bx rfl
  have hb := countV_bnd v 128 (by omega)
  have e : min (countV v 128) 129 = countV v 128 := by omega
  simp only [go_sem, e]
/-- a value of a type without parts -/
def leafOk (p : Int × Int) (v : CV) : Bool := if p.1 = 1 then decide (0 ≤ v.n) && decide (v.n ≤ 1048576) && v.kids.length == 0 else decide (0 ≤ v.n) && decide (v.n < p.2) && v.kids.length == 0
theorem zero_len {α : Type} (l : List α) : ((l.length : Int) == 0) = (l.length == 0) := by rw [Bool.eq_iff_iff]; simp
set_option maxRecDepth 100000 in
theorem con_olabel (v : CV) (s : Int) : Con Tryz.prog 226 [vV v, vi s] [] fun r _ => r = vb (decide (0 ≤ v.n) && decide (v.n < s) && v.kids.length == 0) := by
  rw [vV_eq]
  refine Con.intro Tryz.func226 rfl Tryz.ntmps226 Tryz.results226 (by kernel_rfl) (by simp) 1 (by simp) ?_
  by_cases h1 : 0 ≤ v.n
  · by_cases h2 : v.n < s
    · simp only [go_sem, h1, h2, zero_len, decide_true, Bool.true_and]
    · simp only [go_sem, h1, h2, decide_false, Bool.false_and, Bool.and_false]
  · simp only [go_sem, h1, decide_false, Bool.false_and]
set_option maxRecDepth 100000 in
theorem con_oneLeaf (p : Int × Int) (v : CV) (hp : LeafP p) : Con Tryz.prog 196 [vPT p, vV v] [] fun r _ => r = vb (leafOk p v) := by
  rw [vV_eq]
  refine Con.intro Tryz.func196 rfl Tryz.ntmps196 Tryz.results196 (by kernel_rfl) (by simp) 2 (by simp) ?_
  obtain ⟨k, s⟩ := p
  rcases hp with hp | ⟨rfl, h1, h2⟩
  · cases hp
    have e : leafOk (1, 0) v = (decide (0 ≤ v.n) && decide (v.n ≤ 1048576) && v.kids.length == 0) := by unfold leafOk; rw [if_pos rfl]
    rw [e]
    by_cases h1 : 0 ≤ v.n
    · by_cases h2 : v.n ≤ 1048576
      · simp only [go_sem, h1, h2, zero_len, decide_true, Bool.true_and]
      · simp only [go_sem, h1, h2, decide_false, Bool.false_and, Bool.and_false]
    · simp only [go_sem, h1, decide_false, Bool.false_and]
  · have e : leafOk (2, s) v = (decide (0 ≤ v.n) && decide (v.n < s) && v.kids.length == 0) := by unfold leafOk; rw [if_neg (by simp)]
    rw [e]
    simp only [go_sem]
    refine CallU.free (con_olabel v s) (by simp only [go_sem]) (by simp only [go_sem, vV_eq]) ?_
    rintro r bx rfl
    simp only [go_sem]
/-- a value of a tuple's type -/
def flatOk (ps : List (Int × Int)) (v : CV) : Bool := v.n == 0 && decide (v.kids.length = ps.length) && (List.range ps.length).all fun i => leafOk ps[i]! v.kids[i]!
theorem flat_bad {ps : List (Int × Int)} {v : CV} {i : Nat} (h : i < ps.length) (hb : leafOk ps[i]! v.kids[i]! = false) : flatOk ps v = false := by
  unfold flatOk
  have : ((List.range ps.length).all fun i => leafOk ps[i]! v.kids[i]!) = false := by
    rw [List.all_eq_false]; exact ⟨i, List.mem_range.2 h, by rw [hb]; simp⟩
  rw [this, Bool.and_false]
theorem flat_good {ps : List (Int × Int)} {v : CV} (h0 : v.n = 0) (hl : v.kids.length = ps.length) (h : ∀ i, i < ps.length → leafOk ps[i]! v.kids[i]! = true) : flatOk ps v = true := by
  unfold flatOk
  have : ((List.range ps.length).all fun i => leafOk ps[i]! v.kids[i]!) = true := by
    rw [List.all_eq_true]; exact fun i hi => h i (List.mem_range.1 hi)
  rw [this, h0, decide_eq_true hl]; rfl
set_option maxRecDepth 100000 in
theorem con_oneFlat (ps : List (Int × Int)) (v : CV) (hp : ∀ p ∈ ps, LeafP p) (hl : v.kids.length ≤ 9223372036854775806) : Con Tryz.prog 196 [flatT 0 ps, vV v] [] fun r _ => r = vb (flatOk ps v) := by
  rw [vV_eq]
  refine Con.intro Tryz.func196 rfl Tryz.ntmps196 Tryz.results196 (by kernel_rfl) (by simp) 2 (by simp) ?_
  by_cases h0 : v.n = 0
  case neg =>
    have h0' : (v.n != 0) = true := bne_iff_ne.2 h0
    have e : flatOk ps v = false := by unfold flatOk; rw [beq_eq_false_iff_ne.2 h0]; rfl
    simp only [go_sem, h0', e]
  have h0' : (v.n != 0) = false := by rw [h0]; rfl
  by_cases hn : v.kids.length = ps.length
  case neg =>
    have hn' : ((v.kids.length : Int) != (ps.length : Int)) = true := bne_iff_ne.2 (by omega)
    have e : flatOk ps v = false := by unfold flatOk; rw [decide_eq_false hn, Bool.and_false]; rfl
    simp only [go_sem, h0', hn', e]
  have hn' : ((v.kids.length : Int) != (ps.length : Int)) = false := by rw [hn]; simp
  simp only [go_sem, h0', hn']
  refine LoopK.intro (fun i : Nat => ⟨110, [(2, .pb 0 0), (3, .pb 1 0), (46, .sl 0 2 (v.kids.map vV)), (47, vi v.kids.length), (48, vi i)], [vi 3, vi 0, .nil, .sl 0 4 (ps.map vPT)] :: [vi v.n, .sl 0 2 (v.kids.map vV)] :: Rk 2 i⟩)
    (fun i => v.kids.length - i) (fun i => i ≤ v.kids.length ∧ ∀ j, j < i → leafOk ps[j]! v.kids[j]! = true) 0 ⟨by omega, fun j hj => by omega⟩ ?_ ?_
  · simp only [go_sem]
    exact leB_self _
  rintro i ⟨hi, hb⟩
  by_cases h : i < v.kids.length
  · have h2 : i < ps.length := by omega
    have hg := getvV h
    have hg2 := getPT h2
    have hw : IntKind.i64.wrap (i + 1) = i + 1 := wrap_in (by omega) (by omega)
    have hB := Rk_len 2 i
    have n0 := fun L : List (List AV) => app_at0 (L := L) hB
    have s0 := fun (L : List (List AV)) z => app_set0 (L := L) (z := z) hB
    simp only [go_sem, h, hg, hB, n0, s0]
    refine DrawK.walk 8 mixed (by kernel_rfl) ?_
    simp only [go_sem, h2, hg2, n0]
    refine CallY.mk (con_oneLeaf ps[i]! v.kids[i]! (hp _ (mem_bangI h2))) (by simp only [go_sem, vV_eq]) (by simp only [go_sem]) (.inl (by simp only [go_sem])) ?_
    cases hq : leafOk ps[i]! v.kids[i]!
    · simp only [go_sem]
      rw [flat_bad h2 hq]
    · simp only [go_sem, hw]
      refine roundK.intro (i + 1) ⟨by omega, fun j hj => ?_⟩ (by omega) ?_
      · by_cases hji : j = i
        · subst hji; exact hq
        · exact hb j (by omega)
      · simp only [go_sem, Rk_succ]
        exact leB_RkA ⟨leC_any _ 2 rfl, trivial⟩
  · simp only [go_sem, h]
    rw [flat_good h0 hn (fun j hj => hb j (by omega))]
end Go.AM

/-! ## CmQ -/
namespace Go.AM
open Go Go.Proofs Go.RowKit

theorem conf_flat (ns np : Nat) (c : CV) : flatOk (partsP ns np) c = confB ns np c := by
  obtain ⟨n, kids⟩ := c
  rw [Bool.eq_iff_iff]
  unfold flatOk
  rw [parts_len]
  simp only [CV.n, CV.kids, Bool.and_eq_true, beq_iff_eq, List.all_eq_true, List.mem_range]
  have hz : (partsP ns np)[0]! = (2, (ns : Int)) := rfl
  have hs : ∀ i, i < np → (partsP ns np)[i + 1]! = (1, 0) := fun i hi => by
    unfold partsP
    rw [List.getElem!_cons_succ, getElem!_pos _ i (by simpa using hi), List.getElem_replicate]
  have l0 : ∀ x : CV, leafOk (2, (ns : Int)) x = true ↔ 0 ≤ x.n ∧ x.n < ns ∧ x.kids.length = 0 := fun x => by
    unfold leafOk; rw [if_neg (by simp)]
    simp only [Bool.and_eq_true, decide_eq_true_eq, beq_iff_eq, and_assoc]
  have l1 : ∀ x : CV, leafOk (1, 0) x = true ↔ 0 ≤ x.n ∧ x.n ≤ 1048576 ∧ x.kids.length = 0 := fun x => by
    unfold leafOk; rw [if_pos rfl]
    simp only [Bool.and_eq_true, decide_eq_true_eq, beq_iff_eq, and_assoc]
  cases kids with
  | nil => simp [confB]
  | cons x l =>
    unfold confB
    simp only [Bool.and_eq_true, beq_iff_eq, decide_eq_true_eq, List.all_eq_true, List.length_cons]
    constructor
    · rintro ⟨⟨h0, hl⟩, h⟩
      have hl := of_decide_eq_true hl
      have hx := (l0 x).1 (by have := h 0 (by omega); rw [hz] at this; exact this)
      refine ⟨⟨⟨⟨⟨h0, hx.1⟩, hx.2.1⟩, hx.2.2⟩, by omega⟩, fun k hk => ?_⟩
      obtain ⟨j, hj⟩ := List.getElem?_of_mem hk
      have hjl := (List.getElem?_eq_some_iff.1 hj).1
      have hj2 := h (j + 1) (by omega)
      rw [hs j (by omega), List.getElem!_cons_succ, getElem!_pos l j hjl, (List.getElem?_eq_some_iff.1 hj).2] at hj2
      have := (l1 k).1 hj2
      exact ⟨⟨this.1, this.2.1⟩, this.2.2⟩
    · rintro ⟨⟨⟨⟨⟨h0, h1⟩, h2⟩, h3⟩, hl⟩, h⟩
      refine ⟨⟨h0, decide_eq_true (by omega)⟩, fun i hi => ?_⟩
      cases i with
      | zero => rw [hz]; exact (l0 x).2 ⟨h1, h2, h3⟩
      | succ i =>
        rw [hs i (by omega), List.getElem!_cons_succ]
        have hm : l[i]! ∈ l := mem_bangI (by omega)
        have := h _ hm
        exact (l1 _).2 ⟨this.1.1, this.1.2, this.2⟩
theorem count_leaf {k : CV} (h : k.kids.length = 0) (most : Int) : countV k most = 1 := by
  obtain ⟨n, kids⟩ := k
  have : kids = [] := List.eq_nil_of_length_eq_zero h
  subst this
  rw [countV, countVs]
theorem count_leafs : ∀ (l : List CV) (most n : Int), (∀ k ∈ l, k.kids.length = 0) → n + l.length ≤ most + 1 → countVs l most n = n + l.length
  | [], most, n, _, _ => by rw [countVs]; simp
  | k :: l, most, n, h, hb => by
    simp only [List.length_cons] at hb ⊢
    rw [countVs, if_neg (by omega), count_leaf (h k (List.mem_cons_self ..)), count_leafs l most (n + 1) (fun x hx => h x (List.mem_cons_of_mem _ hx)) (by omega)]
    omega
theorem conf_count {ns np : Nat} {c : CV} (hp : np ≤ 100) (h : confB ns np c = true) : countV c 128 ≤ 128 := by
  obtain ⟨n, kids⟩ := c
  cases kids with
  | nil => simp [confB] at h
  | cons x l =>
    unfold confB at h
    simp only [Bool.and_eq_true, beq_iff_eq, decide_eq_true_eq, List.all_eq_true] at h
    obtain ⟨⟨⟨⟨⟨h0, h1⟩, h2⟩, h3⟩, hl⟩, h⟩ := h
    rw [countV, count_leafs (x :: l) 128 1 (fun k hk => ?_) (by simp only [List.length_cons]; omega)]
    · simp only [List.length_cons]; omega
    · rcases List.mem_cons.1 hk with rfl | hk
      · exact h3
      · exact (h k hk).2
theorem parts_leaf {ns np : Nat} (h1 : 1 ≤ ns) (h2 : ns ≤ 16) : ∀ p ∈ partsP ns np, LeafP p := fun p hp => by
  unfold partsP at hp
  rcases List.mem_cons.1 hp with rfl | hp
  · exact .inr ⟨rfl, by show (1 : Int) ≤ ns; omega, by show (ns : Int) ≤ 16; omega⟩
  · exact .inl (List.mem_replicate.1 hp).2
set_option maxRecDepth 100000 in
theorem con_ovalid (ns np : Nat) (v : CV) (h1 : 1 ≤ ns) (h2 : ns ≤ 16) (h3 : np ≤ 7) (hv : v.Ok) (hl : v.kids.length ≤ 9223372036854775806) : Con Tryz.prog 156 [flatT 0 (partsP ns np), vV v] [] fun r _ => r = vb (confB ns np v) := by
  have e0 := vV_eq v
  rw [e0]
  refine Con.intro Tryz.func156 rfl Tryz.ntmps156 Tryz.results156 (by kernel_rfl) (by simp) 2 (by simp) ?_
  simp only [go_sem]
  refine CallU.free (con_ocheck (partsP ns np) (by rw [parts_len]; omega) (by rw [parts_len]; omega) (parts_leaf h1 h2)) (by simp only [go_sem]) (by simp only [go_sem]) ?_
  rintro r bx rfl
  simp only [go_sem]
  refine CallU.free (con_size v hv) (by simp only [go_sem]) (by simp only [go_sem, vV_eq]) ?_
  rintro r bx rfl
  by_cases hc : countV v 128 ≤ 128
  · simp only [go_sem, hc]
    refine CallU.free (con_oneFlat (partsP ns np) v (parts_leaf h1 h2) hl) (by simp only [go_sem]) (by simp only [go_sem, vV_eq]) ?_
    rintro r bx rfl
    simp only [go_sem, conf_flat]
  · have e : confB ns np v = false := by
      cases hb : confB ns np v
      · rfl
      · exact absurd (conf_count (by omega) hb) hc
    simp only [go_sem, hc, e]

/-! ### valid counter models -/
theorem rule_len {ns np : Nat} {r : RD} (hp : np ≤ 1000000) (hr : ruleB ns np r = true) (hb : bareB r = true) : r.Len := by
  unfold ruleB changesB movesB at hr
  unfold bareB at hb
  simp only [Bool.and_eq_true, Bool.or_eq_true, decide_eq_true_eq, beq_iff_eq] at hr hb
  refine ⟨by omega, by omega, ?_, by omega, by omega, by omega, by omega⟩
  rcases hr.2 with h | h <;> omega
theorem conf_ok {ns np : Nat} {c : CV} (hp : np ≤ 1000000) (h : confB ns np c = true) : c.Ok ∧ c.kids.length = np + 1 := by
  obtain ⟨n, kids⟩ := c
  cases kids with
  | nil => simp [confB] at h
  | cons x l =>
    unfold confB at h
    simp only [Bool.and_eq_true, beq_iff_eq, decide_eq_true_eq, List.all_eq_true] at h
    obtain ⟨⟨⟨⟨⟨h0, h1⟩, h2⟩, h3⟩, hl⟩, h⟩ := h
    have leaf : ∀ k : CV, k.kids.length = 0 → k.Ok := fun k hk => by
      obtain ⟨m, ks⟩ := k
      have : ks = [] := List.eq_nil_of_length_eq_zero hk
      subst this
      exact .mk m [] (by simp) (fun _ hx => by simp at hx)
    refine ⟨.mk n _ (by simp only [List.length_cons]; omega) fun k hk => ?_, by simp only [CV.kids, List.length_cons]; omega⟩
    rcases List.mem_cons.1 hk with rfl | hk
    · exact leaf _ h3
    · exact leaf _ (h k hk).2
theorem names_size {l : List ByteArray} (h : namesB l = true) : ∀ s ∈ l, s.size ≤ 9223372036854775806 := fun s hs => by
  unfold namesB at h
  rw [List.all_eq_true] at h
  obtain ⟨i, hi⟩ := List.getElem?_of_mem hs
  have hil := (List.getElem?_eq_some_iff.1 hi).1
  have := h i (List.mem_range.2 hil)
  unfold okN wordB at this
  rw [getElem!_pos l i hil, (List.getElem?_eq_some_iff.1 hi).2] at this
  simp only [Bool.and_eq_true, decide_eq_true_eq] at this
  omega
theorem good_sized {m : MD} (h : GoodM m) : sizedB m = true := by
  have e : limF m.kind = [1, 6, 0, 0, 0, 0, 0, 0] := by rw [h.kind]; rfl
  have h1 := h.states
  have h2 := h.places
  have h3 := h.few
  unfold sizedB lim betweenB
  rw [e, h.letters, h.levels, h.age]
  simp only [List.getD_cons_zero, List.getD_cons_succ, Bool.and_eq_true, decide_eq_true_eq, List.length_nil]
  refine ⟨⟨⟨⟨⟨⟨?_, ?_⟩, ?_⟩, ?_, ?_⟩, ?_⟩, ?_⟩, ?_⟩ <;> first | omega | simp
theorem good_ranked {m : MD} (h : GoodM m) : rankedB m = true := by
  unfold rankedB
  rw [h.kind, h.ranks]; rfl
theorem good_named {m : MD} (h : GoodM m) : (namesOf m).length ≤ 1000000 := by
  have h1 := h.states
  have h2 := h.places
  have h3 := h.few
  unfold namesOf
  simp only [List.length_append, List.length_map, h.letters, List.length_nil]
  omega
set_option maxRecDepth 100000 in
set_option maxHeartbeats 1000000 in
theorem con_begins (m : MD) (h : GoodM m) : Con Tryz.prog 169 [vM m] [] fun r _ => r = vb true := by
  refine Con.intro Tryz.func169 rfl Tryz.ntmps169 Tryz.results169 (by kernel_rfl) (by simp) 1 (by simp) ?_
  have h1 := h.states
  have h2 := h.places
  have hk := h.kind
  have hc := conf_ok (by omega) h.start
  simp only [go_sem, hk]
  refine DrawK.walk 6 mixed (by kernel_rfl) ?_
  simp only [go_sem]
  refine CallY.mk (con_typed m hk (by omega)) (by simp only [go_sem, hk]) (by simp only [go_sem]) (.inl (by simp only [go_sem])) ?_
  simp only [go_sem]
  refine CallY.mk (con_ovalid m.states.length m.places.length m.start (by omega) (by omega) (by omega) hc.1 (by omega)) (by simp only [go_sem, vV_eq]) (by simp only [go_sem]) (.inr (by simp only [go_sem])) ?_
  simp only [go_sem, h.start]
set_option maxRecDepth 100000 in
set_option maxHeartbeats 1000000 in
theorem con_check (m : MD) (h : GoodM m) : Con Tryz.prog 121 [vM m] [] fun r _ => r = vi 0 := by
  refine Con.intro Tryz.func121 rfl Tryz.ntmps121 Tryz.results121 (by kernel_rfl) (by simp) 1 (by simp) ?_
  have h1 := h.states
  have h2 := h.places
  have h3 := h.few
  have hk := h.kind
  have hr0 : m.ranks.length ≤ 9223372036854775806 := by rw [h.ranks]; simp
  simp only [go_sem, hk]
  refine CallU.free (con_between 1 1 6) (by simp only [go_sem]) (by simp only [go_sem]) ?_
  rintro r bx rfl
  have e1 : betweenB 1 1 6 = true := by decide
  simp only [go_sem, e1]
  refine CallU.free (con_sized m) (by simp only [go_sem]) (by simp only [go_sem, hk]) ?_
  rintro r bx rfl
  simp only [go_sem, good_sized h]
  refine CallU.free (con_ranked m hr0) (by simp only [go_sem]) (by simp only [go_sem, hk]) ?_
  rintro r bx rfl
  simp only [go_sem, good_ranked h]
  refine CallU.free (con_named m h1.1 (good_named h) (names_size h.names)) (by simp only [go_sem]) (by simp only [go_sem, hk]) ?_
  rintro r bx rfl
  simp only [go_sem, h.names]
  refine CallU.look (con_containsRule m.rules 167 [.fp (cM m) 0] (fun _ => false) (by simp only [go_sem]) (fun r hr => con_check1 m r hk (by omega) (by omega) (rule_len (by omega) (h.rules r hr).1 (h.rules r hr).2) (h.rules r hr).1 (h.rules r hr).2) (by omega)) (by simp only [go_sem]) (by simp only [go_sem, hk]) ?_
  rintro r bx rfl
  simp only [go_sem, any_false]
  refine CallU.free (con_begins m h) (by simp only [go_sem]) (by simp only [go_sem, hk]) ?_
  rintro r bx rfl
  simp only [go_sem]
set_option maxRecDepth 100000 in
set_option maxHeartbeats 1000000 in
theorem con_mvalid (m : MD) (c : CV) (h : GoodM m) (hc : c.Ok) (hl : c.kids.length ≤ 9223372036854775806) : Con Tryz.prog 94 [vM m, vV c] [] fun r _ => r = vb (confB m.states.length m.places.length c) := by
  have e0 := vV_eq c
  rw [e0]
  refine Con.intro Tryz.func94 rfl Tryz.ntmps94 Tryz.results94 (by kernel_rfl) (by simp) 2 (by simp) ?_
  have h1 := h.states
  have h2 := h.places
  have hk := h.kind
  simp only [go_sem, hk]
  refine DrawK.walk 10 mixed (by kernel_rfl) ?_
  simp only [go_sem]
  refine CallY.mk (con_check m h) (by simp only [go_sem, hk]) (by simp only [go_sem]) (.inl (by simp only [go_sem])) ?_
  simp only [go_sem]
  refine CallY.mk (con_typed m hk (by omega)) (by simp only [go_sem, hk]) (by simp only [go_sem]) (.inl (by simp only [go_sem])) ?_
  simp only [go_sem]
  refine CallY.mk (con_ovalid m.states.length m.places.length c (by omega) (by omega) (by omega) hc hl) (by simp only [go_sem, vV_eq]) (by simp only [go_sem]) (.inr (by simp only [go_sem])) ?_
  simp only [go_sem]
def stillB (r : RD) : Bool := r.move.length == 0
set_option maxRecDepth 100000 in
theorem con_plain1 (r : RD) : Con Tryz.prog 190 [vRule r] [] fun x _ => x = .sc (.bool (!stillB r)) := by
  refine Con.intro Tryz.func190 rfl Tryz.ntmps190 Tryz.results190 (by kernel_rfl) (by simp) 1 (by simp) ?_
  unfold stillB
  simp only [go_sem]
  cases r.move <;> simp
set_option maxRecDepth 100000 in
theorem con_plain (m : MD) (hk : m.kind = 1) (hl : m.rules.length ≤ 9223372036854775806) : Con Tryz.prog 144 [vM m] [] fun x _ => x = vb (m.rules.all stillB) := by
  refine Con.intro Tryz.func144 rfl Tryz.ntmps144 Tryz.results144 (by kernel_rfl) (by simp) 1 (by simp) ?_
  simp only [go_sem, hk]
  refine CallU.free (con_containsRule m.rules 190 [] (fun r => !stillB r) rfl (fun r _ => con_plain1 r) hl) (by simp only [go_sem]) (by simp only [go_sem]) ?_
  rintro r bx rfl
  simp only [go_sem, any_not]
set_option maxRecDepth 100000 in
theorem con_counts (m : MD) (h : GoodM m) (hs : m.rules.all stillB = true) : Con Tryz.prog 82 [vM m] [] fun r _ => r = vi 0 := by
  refine Con.intro Tryz.func82 rfl Tryz.ntmps82 Tryz.results82 (by kernel_rfl) (by simp) 1 (by simp) ?_
  have h3 := h.few
  simp only [go_sem]
  refine CallU.free (con_check m h) (by simp only [go_sem]) (by simp only [go_sem]) ?_
  rintro r bx rfl
  simp only [go_sem]
  refine CallU.free (con_plain m h.kind (by omega)) (by simp only [go_sem]) (by simp only [go_sem]) ?_
  rintro r bx rfl
  simp only [go_sem, hs]
end Go.AM

/-! ## CmR -/
namespace Go.AM
open Go Go.Proofs Go.RowKit

def badC (c : Int) : Bool := decide (c < -4) || decide (4 < c)
set_option maxRecDepth 100000 in
theorem con_fits1 (c : Int) : Con Tryz.prog 158 [vi c] [] fun r _ => r = .sc (.bool (badC c)) := by
  refine Con.intro Tryz.func158 rfl Tryz.ntmps158 Tryz.results158 (by kernel_rfl) (by simp) 0 (by simp) ?_
  unfold badC
  by_cases h1 : c < -4
  · simp only [go_sem, h1, decide_true, Bool.true_or]
  · simp only [go_sem, h1, decide_false, Bool.false_or]
theorem small_fits {c : List Int} (h : SmallI 4 c) : c.any badC = false := by
  rw [List.any_eq_false]
  intro x hx
  have := h x hx
  unfold badC
  rw [decide_eq_false (by omega), decide_eq_false (by omega)]; simp
set_option maxRecDepth 100000 in
theorem con_fits (c : List Int) (h : SmallI 4 c) (hl : c.length ≤ 9223372036854775806) : Con Tryz.prog 96 [vs 0 c] [] fun r _ => r = vb true := by
  refine Con.intro Tryz.func96 rfl Tryz.ntmps96 Tryz.results96 (by kernel_rfl) (by simp) 0 (by simp) ?_
  simp only [go_sem]
  refine CallU.free (con_containsInt c 158 [] badC rfl (fun x _ => con_fits1 x) hl) (by simp only [go_sem]) (by simp only [go_sem]) ?_
  rintro r bx rfl
  simp only [go_sem, small_fits h]
def ModOk (m : Int) : Prop := m = 0 ∨ 2 ≤ m ∧ m ≤ 8
set_option maxRecDepth 100000 in
theorem con_modulus (m : Int) (h : ModOk m) : Con Tryz.prog 97 [vi m] [] fun r _ => r = vb true := by
  refine Con.intro Tryz.func97 rfl Tryz.ntmps97 Tryz.results97 (by kernel_rfl) (by simp) 0 (by simp) ?_
  rcases h with rfl | ⟨h1, h2⟩
  · simp only [go_sem]
  · have h0 : (m == 0) = false := beq_eq_false_iff_ne.2 (by omega)
    simp only [go_sem, h0, h1, h2]
def badV (low high v : Int) : Bool := (v != 1099511627776) && (decide (v < low) || decide (high < v))
set_option maxRecDepth 100000 in
theorem con_acheck1 (v low high : Int) : Con Tryz.prog 115 [vi v, .fp [vi low] 0, .fp [vi high] 0] [] fun r _ => r = .sc (.bool (badV low high v)) := by
  refine Con.intro Tryz.func115 rfl Tryz.ntmps115 Tryz.results115 (by kernel_rfl) (by simp) 0 (by simp) ?_
  unfold badV
  cases h0 : (v != 1099511627776)
  · simp only [go_sem, h0, Bool.false_and]
  · by_cases h1 : v < low
    · simp only [go_sem, h0, h1, decide_true, Bool.true_or, Bool.true_and]
    · simp only [go_sem, h0, h1, decide_false, Bool.false_or, Bool.true_and]
def lowF (mod : Int) : Int := if 0 < mod then 0 else -1099511627776
def highF (mod : Int) : Int := if 0 < mod then mod - 1 else 1099511627775
/-- the values are right for a modulus -/
def valuesB (mod : Int) (l : List Int) : Bool := !l.any (badV (lowF mod) (highF mod))
def acheckF (a : AtomD) : Int := if valuesB a.mod a.values then 0 else 44
/-- the parts of an atom that are not the values are right -/
structure FormA (m : MD) (a : AtomD) : Prop where
  coefs : a.coefs.length = m.places.length
  small : SmallI 4 a.coefs
  mod : ModOk a.mod
  values : a.values.length = m.states.length
def acheckTree : Tr := .front 0 (.alt (.one 1 (.alt (.one 2 (.one 3 (.one 4 .done))) (.one 3 (.one 2 (.one 4 .done))))) (.one 3 (.one 1 (.one 2 (.one 4 .done)))))
set_option maxRecDepth 100000 in
set_option maxHeartbeats 2000000 in
theorem con_acheck (m : MD) (a : AtomD) (h : GoodM m) (hs : m.rules.all stillB = true) (ha : FormA m a) : Con Tryz.prog 53 [vM m, vAtom a] [] fun r _ => r = vi (acheckF a) := by
  refine Con.intro Tryz.func53 rfl Tryz.ntmps53 Tryz.results53 (by kernel_rfl) (by simp) 2 (by simp) ?_
  have h1 := h.states
  have h2 := h.places
  have c1 : ((a.coefs.length : Int) != (m.places.length : Int)) = false := by rw [ha.coefs]; simp
  have c2 : ((a.values.length : Int) != (m.states.length : Int)) = false := by rw [ha.values]; simp
  have l1 := ha.coefs
  have l2 := ha.values
  simp only [go_sem]
  refine CallU.free (con_counts m h hs) (by simp only [go_sem]) (by simp only [go_sem]) ?_
  rintro r bx rfl
  simp only [go_sem, c1]
  refine CallU.free (con_fits a.coefs ha.small (by omega)) (by simp only [go_sem]) (by simp only [go_sem]) ?_
  rintro r bx rfl
  simp only [go_sem]
  refine CallU.free (con_modulus a.mod ha.mod) (by simp only [go_sem]) (by simp only [go_sem]) ?_
  rintro r bx rfl
  have fin : ∀ (low high : Int), low = lowF a.mod → high = highF a.mod → Con Tryz.prog 78 [vs 0 a.values, .fn 115 [.fp [vi low] 0, .fp [vi high] 0]] [] fun r _ => r = .sc (.bool (!valuesB a.mod a.values)) := by
    rintro _ _ rfl rfl
    have := con_containsInt a.values 115 [.fp [vi (lowF a.mod)] 0, .fp [vi (highF a.mod)] 0] (badV (lowF a.mod) (highF a.mod)) (by simp only [go_sem]) (fun x _ => con_acheck1 x _ _) (by omega)
    unfold valuesB
    rw [Bool.not_not]; exact this
  unfold acheckF
  by_cases hp : 0 < a.mod
  · have hw : IntKind.i64.wrap (a.mod - 1) = a.mod - 1 := by have := ha.mod; unfold ModOk at this; exact wrap_in (by omega) (by omega)
    simp only [go_sem, c2, hp]
    refine DrawK.meet ⟨51, [(2, .pb 0 0), (3, .pb 1 0), (4, vi 0), (6, .pb 2 0), (7, .pb 3 0)], [cM m, [vs 0 a.coefs, vi a.mod, vs 0 a.values], [vi 0], [vi (a.mod - 1)]]⟩ ?_ ?_
    · refine DrawK.tree acheckTree mixed (by kernel_rfl) ?_
      unfold acheckTree
      repeat' (first | with_reducible apply andK_mk | simp only [go_sem, hw])
    · simp only [go_sem]
      refine CallU.look (fin 0 (a.mod - 1) (by unfold lowF; rw [if_pos hp]) (by unfold highF; rw [if_pos hp])) (by simp only [go_sem]) (by simp only [go_sem]) ?_
      rintro r bx rfl
      cases valuesB a.mod a.values
      · simp only [go_sem]
        all_goals rfl
      · simp only [go_sem]
        all_goals rfl
  · simp only [go_sem, c2, hp]
    refine CallU.look (fin (-1099511627776) 1099511627775 (by unfold lowF; rw [if_neg hp]) (by unfold highF; rw [if_neg hp])) (by simp only [go_sem]) (by simp only [go_sem]) ?_
    rintro r bx rfl
    cases valuesB a.mod a.values
    · simp only [go_sem]
      all_goals rfl
    · simp only [go_sem]
      all_goals rfl
end Go.AM

/-! ## CmS -/
namespace Go.AM
open Go Go.Proofs Go.RowKit

theorem mul_le6 {n : Nat} (h : n ≤ 6) : 4194304 * (n : Int) ≤ 25165824 := by omega
set_option maxRecDepth 100000 in
theorem con_effect (c : List Int) (r : RD) (h1 : c.length ≤ r.give.length) (h2 : c.length ≤ r.need.length) (h6 : c.length ≤ 6) (hc : SmallI 4 c) (hg : SmallI 1048576 r.give) (hn : SmallI 1048576 r.need) : Con Tryz.prog 155 [vs 0 c, vRule r] [] fun x _ => x = vi (effectF c r) := by
  refine Con.intro Tryz.func155 rfl Tryz.ntmps155 Tryz.results155 (by kernel_rfl) (by simp) 1 (by simp) ?_
  have b1 := sum_small hc hg
  have b2 := sum_small hc hn
  have b3 := mul_le6 h6
  have hw : IntKind.i64.wrap (sumF c r.give - sumF c r.need) = effectF c r := by unfold effectF; exact wrap_in (by omega) (by omega)
  simp only [go_sem]
  refine DrawK.walk 10 mixed (by kernel_rfl) ?_
  simp only [go_sem]
  refine CallY.mk (con_sum c r.give h1 (by omega) hc hg) (by simp only [go_sem]) (by simp only [go_sem]) (.inl (by simp only [go_sem])) ?_
  simp only [go_sem]
  refine CallY.mk (con_sum c r.need h2 (by omega) hc hn) (by simp only [go_sem]) (by simp only [go_sem]) (.inl (by simp only [go_sem])) ?_
  simp only [go_sem, hw]
/-- an atom holds for a state and numbers -/
def holdsF (a : AtomD) (s : Nat) (v : List Int) : Bool := followsF a (sumF a.coefs v) s
/-- a configuration -/
def cfgC (s : Nat) (v : List Int) : CV := .mk 0 (.mk s [] :: v.map fun n => .mk n [])
theorem cfg_nums (v : List Int) : (v.map fun n => CV.mk n []).map CV.n = v := by rw [List.map_map]; exact List.map_id v
set_option maxRecDepth 100000 in
theorem con_holds (a : AtomD) (s : Nat) (v : List Int) (h1 : a.coefs.length ≤ v.length) (h6 : v.length ≤ 1000000) (hc : SmallI 4 a.coefs) (hv : SmallI 1048576 v) (hs : s < a.values.length) (hm : ModOk a.mod) : Con Tryz.prog 95 [vAtom a, vV (cfgC s v)] [] fun x _ => x = vb (holdsF a s v) := by
  have e0 := vV_eq (cfgC s v)
  rw [e0]
  refine Con.intro Tryz.func95 rfl Tryz.ntmps95 Tryz.results95 (by kernel_rfl) (by simp) 2 (by simp) ?_
  have hmo := hm
  unfold ModOk at hmo
  have hk : (cfgC s v).kids = .mk s [] :: v.map fun n => .mk n [] := rfl
  have hg : ((cfgC s v).kids.map vV)[0]? = some (.ag [.sc (.int .i64 s), .sl 0 2 []]) := getvV (l := (cfgC s v).kids) (by rw [hk]; simp)
  have hl : 0 < (cfgC s v).kids.length := by rw [hk]; simp
  have hn := con_numbers (cfgC s v).n (.mk s []) (v.map fun n => .mk n []) (by simpa using h6)
  rw [cfg_nums, ← hk] at hn
  simp only [go_sem]
  refine DrawK.walk 13 mixed (by kernel_rfl) ?_
  simp only [go_sem]
  refine CallY.mk hn (by simp only [go_sem]) (by simp only [go_sem]) (.inl (by simp only [go_sem])) ?_
  simp only [go_sem]
  refine CallY.mk (con_sum a.coefs v h1 (by omega) hc hv) (by simp only [go_sem]) (by simp only [go_sem]) (.inr (by simp only [go_sem])) ?_
  simp only [go_sem, hl, hg]
  refine CallY.mk (con_follows a (sumF a.coefs v) s hs (by omega) (by omega)) (by simp only [go_sem]) (by simp only [go_sem]) (.inl (by simp only [go_sem])) ?_
  simp only [go_sem]
  rfl
/-- rules whose lists have their lengths and small numbers -/
structure FineR (ns np : Nat) (r : RD) : Prop where
  right : RightR ns np r
  need : SmallI 1048576 r.need
  give : SmallI 1048576 r.give
theorem rule_fine {ns np : Nat} {r : RD} (h : ruleB ns np r = true) : FineR ns np r := by
  unfold ruleB changesB indexB smallB betweenB at h
  simp only [Bool.and_eq_true, decide_eq_true_eq, List.all_eq_true] at h
  obtain ⟨⟨⟨⟨h1, h2⟩, ⟨h3, h4⟩⟩, ⟨⟨⟨h5, h6⟩, h7⟩, h8⟩⟩, _⟩ := h
  refine ⟨⟨by omega, by omega, by omega, by omega, h5, h6⟩, fun x hx => ?_, fun x hx => ?_⟩
  · have := h7 x hx; omega
  · have := h8 x hx; omega
theorem effect_small {np : Nat} {c : List Int} {r : RD} {ns : Nat} (hr : FineR ns np r) (hl : c.length ≤ 6) (hc : SmallI 4 c) : -50331648 ≤ effectF c r ∧ effectF c r ≤ 50331648 := by
  have b1 := sum_small hc hr.give
  have b2 := sum_small hc hr.need
  have b3 := mul_le6 hl
  unfold effectF
  omega
/-- the error of a valid atom -/
def closedF (rules : List RD) (s0 : Nat) (v0 : List Int) (a : AtomD) : Int := if holdsF a s0 v0 then (if rules.all (keepsF a) then 0 else 41) else 42
theorem closed_bad {rules : List RD} {s0 : Nat} {v0 : List Int} {a : AtomD} {i : Nat} (h : i < rules.length) (h0 : holdsF a s0 v0 = true) (hb : keepsF a rules[i]! = false) : closedF rules s0 v0 a = 41 := by
  unfold closedF
  have : rules.all (keepsF a) = false := by rw [List.all_eq_false]; exact ⟨rules[i]!, mem_bangI h, by rw [hb]; simp⟩
  rw [h0, this]; rfl
theorem closed_ok {rules : List RD} {s0 : Nat} {v0 : List Int} {a : AtomD} (h0 : holdsF a s0 v0 = true) (h : ∀ i, i < rules.length → keepsF a rules[i]! = true) : closedF rules s0 v0 a = 0 := by
  unfold closedF
  have : rules.all (keepsF a) = true := by
    rw [List.all_eq_true]
    intro r hr
    obtain ⟨j, hj⟩ := List.getElem?_of_mem hr
    have hjl := (List.getElem?_eq_some_iff.1 hj).1
    have := h j hjl
    rw [getElem!_pos rules j hjl, (List.getElem?_eq_some_iff.1 hj).2] at this; exact this
  rw [h0, this]; rfl
set_option maxRecDepth 100000 in
set_option maxHeartbeats 2000000 in
theorem con_closed (m : MD) (a : AtomD) (s0 : Nat) (v0 : List Int) (hst : m.start = cfgC s0 v0) (hv0 : v0.length = m.places.length) (hb0 : SmallI 1048576 v0) (hs0 : s0 < m.states.length)
    (hr : ∀ r ∈ m.rules, FineR m.states.length m.places.length r) (hp : m.places.length ≤ 6) (hrl : m.rules.length ≤ 1000000) (ha : FormA m a) (hB : InB 1099511627776 a.values) :
    Con Tryz.prog 92 [vM m, vAtom a] [] fun x _ => x = vi (closedF m.rules s0 v0 a) := by
  refine Con.intro Tryz.func92 rfl Tryz.ntmps92 Tryz.results92 (by kernel_rfl) (by simp) 2 (by simp) ?_
  have hmo := ha.mod
  unfold ModOk at hmo
  have lc := ha.coefs
  have lv := ha.values
  simp only [go_sem]
  refine CallU.free (con_holds a s0 v0 (by omega) (by omega) ha.small hb0 (by omega) ha.mod) (by simp only [go_sem]) (by simp only [go_sem, ← hst, vV_eq]) ?_
  rintro r bx rfl
  cases hh : holdsF a s0 v0
  · have e : closedF m.rules s0 v0 a = 42 := by unfold closedF; rw [hh]; rfl
    simp only [go_sem, e]
  simp only [go_sem]
  refine LoopK.intro (fun i : Nat => ⟨42, [(2, .pb 0 0), (3, .pb 1 0), (14, .sl 0 14 (m.rules.map vRule)), (15, vi m.rules.length), (16, vi i)], cM m :: [vs 0 a.coefs, vi a.mod, vs 0 a.values] :: Rk 14 i⟩)
    (fun i => m.rules.length - i) (fun i => i ≤ m.rules.length ∧ ∀ j, j < i → keepsF a m.rules[j]! = true) 0 ⟨by omega, fun j hj => by omega⟩ ?_ ?_
  · simp only [go_sem]
    exact leB_self _
  rintro i ⟨hi, hb⟩
  by_cases h : i < m.rules.length
  · have hg := getRule h
    have hw : IntKind.i64.wrap (i + 1) = i + 1 := wrap_in (by omega) (by omega)
    have hB' := Rk_len 14 i
    have n0 := fun L : List (List AV) => app_at0 (L := L) hB'
    have s0' := fun (L : List (List AV)) z => app_set0 (L := L) (z := z) hB'
    have hf := hr m.rules[i]! (mem_bangI h)
    obtain ⟨r1, r2, r3, r4, r5, r6⟩ := hf.right
    have ds : (m.rules[i]!.src.toNat : Int) = m.rules[i]!.src := by omega
    have dd : (m.rules[i]!.dst.toNat : Int) = m.rules[i]!.dst := by omega
    have hsl : m.rules[i]!.src.toNat < a.values.length := by omega
    have hdl : m.rules[i]!.dst.toNat < a.values.length := by omega
    have gs := getv hsl
    simp only [go_sem, h, hg, hB', n0, s0', r1, gs]
    refine ⟨by omega, ?_⟩
    refine DrawK.walk 15 mixed (by kernel_rfl) ?_
    have next : ∀ {P : Prop}, keepsF a m.rules[i]! = true → (∀ j, j < i + 1 → keepsF a m.rules[j]! = true) := fun hk j hj => by
      by_cases hji : j = i
      · subst hji; exact hk
      · exact hb j (by omega)
    by_cases ho : a.values[m.rules[i]!.src.toNat]! = 1099511627776
    · have hk : keepsF a m.rules[i]! = true := by unfold keepsF omegaI; rw [ho]; rfl
      have ho' : (a.values[m.rules[i]!.src.toNat]! != 1099511627776) = false := by rw [ho]; rfl
      simp only [go_sem, ho', hw]
      refine roundK.intro (i + 1) ⟨by omega, next (P := True) hk⟩ (by omega) ?_
      simp only [go_sem, Rk_succ]
      exact leB_RkA ⟨leC_any _ 14 rfl, trivial⟩
    · have ho' : (a.values[m.rules[i]!.src.toNat]! != 1099511627776) = true := bne_iff_ne.2 ho
      have hE := effect_small hf (by omega) ha.small
      have hV := (hB m.rules[i]!.src.toNat).resolve_left ho
      have hw2 : IntKind.i64.wrap (a.values[m.rules[i]!.src.toNat]! + effectF a.coefs m.rules[i]!) = a.values[m.rules[i]!.src.toNat]! + effectF a.coefs m.rules[i]! := wrap_in (by omega) (by omega)
      have hk : keepsF a m.rules[i]! = followsF a (a.values[m.rules[i]!.src.toNat]! + effectF a.coefs m.rules[i]!) m.rules[i]!.dst.toNat := by
        unfold keepsF omegaI
        rw [beq_eq_false_iff_ne.2 ho, Bool.false_or]
      simp only [go_sem, ho', n0]
      refine CallY.mk (con_effect a.coefs m.rules[i]! (by omega) (by omega) (by omega) ha.small hf.give hf.need) (by simp only [go_sem]) (by simp only [go_sem]) (.inl (by simp only [go_sem])) ?_
      simp only [go_sem, hw2, n0]
      refine CallY.mk (con_follows a (a.values[m.rules[i]!.src.toNat]! + effectF a.coefs m.rules[i]!) m.rules[i]!.dst.toNat hdl (by omega) (by omega)) (by simp only [go_sem, dd]) (by simp only [go_sem]) (.inl (by simp only [go_sem])) ?_
      cases hq : followsF a (a.values[m.rules[i]!.src.toNat]! + effectF a.coefs m.rules[i]!) m.rules[i]!.dst.toNat
      · simp only [go_sem]
        rw [closed_bad h hh (by rw [hk]; exact hq)]
      · simp only [go_sem, hw]
        refine roundK.intro (i + 1) ⟨by omega, next (P := True) (by rw [hk]; exact hq)⟩ (by omega) ?_
        simp only [go_sem, Rk_succ]
        exact leB_RkA ⟨leC_any _ 14 rfl, trivial⟩
  · simp only [go_sem, h]
    rw [closed_ok hh (fun j hj => hb j (by omega))]
end Go.AM

/-! ## CmT -/
namespace Go.AM
open Go Go.Proofs Go.RowKit

theorem values_bnd {mod : Int} {l : List Int} (hm : ModOk mod) (h : valuesB mod l = true) : InB 1099511627776 l := fun s => by
  by_cases hs : s < l.length
  · unfold valuesB at h
    simp only [Bool.not_eq_true', List.any_eq_false] at h
    have := h l[s]! (mem_bangI hs)
    unfold badV omegaI at *
    by_cases ho : l[s]! = 1099511627776
    · exact .inl ho
    · have ho' : (l[s]! != 1099511627776) = true := bne_iff_ne.2 ho
      rw [ho', Bool.true_and] at this
      simp only [Bool.or_eq_true, decide_eq_true_eq, not_or] at this
      unfold lowF highF ModOk at *
      right
      split at this <;> omega
  · have : l[s]! = 0 := by rw [getElem!_neg l s hs]; rfl
    rw [this]; right; omega
/-- a configuration that is right -/
structure GoodC (m : MD) (s : Nat) (v : List Int) : Prop where
  state : s < m.states.length
  len : v.length = m.places.length
  low : ∀ x ∈ v, 0 ≤ x ∧ x ≤ 1048576
theorem GoodC.small {m : MD} {s : Nat} {v : List Int} (h : GoodC m s v) : SmallI 1048576 v := fun x hx => by have := h.low x hx; omega
theorem GoodC.conf {m : MD} {s : Nat} {v : List Int} (h : GoodC m s v) : confB m.states.length m.places.length (cfgC s v) = true := by
  have h1 := h.state
  have a1 : (v.map fun n => CV.mk n []).all (fun k => decide (0 ≤ k.n) && decide (k.n ≤ 1048576) && k.kids.length == 0) = true := by
    rw [List.all_map, List.all_eq_true]
    intro n hn
    have := h.low n hn
    show (decide (0 ≤ n) && decide (n ≤ 1048576) && true) = true
    rw [decide_eq_true this.1, decide_eq_true this.2]; rfl
  have a2 : decide ((0 : Int) ≤ (s : Int)) = true := decide_eq_true (by omega)
  have a3 : decide ((s : Int) < (m.states.length : Int)) = true := decide_eq_true (by omega)
  have a4 : ((v.map fun n => CV.mk n []).length == m.places.length) = true := by rw [List.length_map, h.len]; simp
  show (((((((0 : Int) == 0) && decide ((0 : Int) ≤ (s : Int))) && decide ((s : Int) < (m.states.length : Int))) && true) && ((v.map fun n => CV.mk n []).length == m.places.length)) && (v.map fun n => CV.mk n []).all (fun k => decide (0 ≤ k.n) && decide (k.n ≤ 1048576) && k.kids.length == 0)) = true
  rw [a1, a2, a3, a4]; rfl
/-- a counter model without moves -/
structure PlainM (m : MD) (s0 : Nat) (v0 : List Int) : Prop where
  good : GoodM m
  still : m.rules.all stillB = true
  start : m.start = cfgC s0 v0
  conf : GoodC m s0 v0
theorem PlainM.fine {m : MD} {s0 : Nat} {v0 : List Int} (h : PlainM m s0 v0) : ∀ r ∈ m.rules, FineR m.states.length m.places.length r := fun r hr => rule_fine (h.good.rules r hr).1
set_option maxRecDepth 100000 in
set_option maxHeartbeats 1000000 in
theorem con_Holds (m : MD) (a : AtomD) (s0 : Nat) (v0 : List Int) (s : Nat) (v : List Int) (h : PlainM m s0 v0) (ha : FormA m a) (hc : GoodC m s v) :
    Con Tryz.prog 35 [vM m, vAtom a, vV (cfgC s v)] [] fun x _ => x = .tup [vb (valuesB a.mod a.values && holdsF a s v), vi (acheckF a)] := by
  have e0 := vV_eq (cfgC s v)
  have hco := conf_ok (by have := h.good.places; omega) hc.conf
  have h2 := h.good.places
  have h1 := h.good.states
  rw [e0]
  refine Con.intro Tryz.func35 rfl Tryz.ntmps35 Tryz.results35 (by kernel_rfl) (by simp) 3 (by simp) ?_
  simp only [go_sem]
  refine CallU.free (con_acheck m a h.good h.still ha) (by simp only [go_sem]) (by simp only [go_sem]) ?_
  rintro r bx rfl
  unfold acheckF
  cases hv : valuesB a.mod a.values
  · simp only [go_sem, Bool.false_eq_true, if_false]
    all_goals simp
  simp only [go_sem, if_true]
  refine CallU.free (con_mvalid m (cfgC s v) h.good hco.1 (by omega)) (by simp only [go_sem]) (by simp only [go_sem, vV_eq]) ?_
  rintro r bx rfl
  simp only [go_sem, hc.conf]
  refine CallU.free (con_holds a s v (by rw [ha.coefs, hc.len]; exact Nat.le_refl _) (by rw [hc.len]; omega) ha.small hc.small (by rw [ha.values]; exact hc.state) ha.mod) (by simp only [go_sem]) (by simp only [go_sem, vV_eq]) ?_
  rintro r bx rfl
  simp only [go_sem, Bool.true_and]
set_option maxRecDepth 100000 in
set_option maxHeartbeats 1000000 in
theorem con_Closed (m : MD) (a : AtomD) (s0 : Nat) (v0 : List Int) (h : PlainM m s0 v0) (ha : FormA m a) :
    Con Tryz.prog 33 [vM m, vAtom a] [] fun x _ => x = vi (if valuesB a.mod a.values then closedF m.rules s0 v0 a else 44) := by
  have h2 := h.good.places
  have h3 := h.good.few
  refine Con.intro Tryz.func33 rfl Tryz.ntmps33 Tryz.results33 (by kernel_rfl) (by simp) 2 (by simp) ?_
  simp only [go_sem]
  refine CallU.free (con_acheck m a h.good h.still ha) (by simp only [go_sem]) (by simp only [go_sem]) ?_
  rintro r bx rfl
  unfold acheckF
  cases hv : valuesB a.mod a.values
  · simp only [go_sem, Bool.false_eq_true, if_false]
    all_goals simp
  simp only [go_sem, if_true]
  refine CallU.free (con_closed m a s0 v0 h.start h.conf.len h.conf.small h.conf.state h.fine (by omega) (by omega) ha (values_bnd ha.mod hv)) (by simp only [go_sem]) (by simp only [go_sem]) ?_
  rintro r bx rfl
  simp only [go_sem]
set_option maxRecDepth 100000 in
set_option maxHeartbeats 1000000 in
theorem con_Excludes (m : MD) (a : AtomD) (s0 : Nat) (v0 : List Int) (s : Nat) (v : List Int) (h : PlainM m s0 v0) (ha : FormA m a) (hc : GoodC m s v) :
    Con Tryz.prog 36 [vM m, vAtom a, vV (cfgC s v)] [] fun x _ => x = .tup [vb (valuesB a.mod a.values && (!holdsF a s v) && closedF m.rules s0 v0 a == 0), vi (acheckF a)] := by
  have e0 := vV_eq (cfgC s v)
  have h2 := h.good.places
  have h3 := h.good.few
  have hH := con_Holds m a s0 v0 s v h ha hc
  unfold acheckF at hH ⊢
  rw [e0] at hH ⊢
  refine Con.intro Tryz.func36 rfl Tryz.ntmps36 Tryz.results36 (by kernel_rfl) (by simp) 3 (by simp) ?_
  simp only [go_sem]
  refine CallU.free hH (by simp only [go_sem]) (by simp only [go_sem]) ?_
  rintro r bx rfl
  cases hv : valuesB a.mod a.values
  · simp only [go_sem, Bool.false_eq_true, if_false, Bool.false_and]
    all_goals simp
  simp only [go_sem, if_true, Bool.true_and]
  cases hh : holdsF a s v
  · simp only [go_sem]
    refine CallU.free (con_closed m a s0 v0 h.start h.conf.len h.conf.small h.conf.state h.fine (by omega) (by omega) ha (values_bnd ha.mod hv)) (by simp only [go_sem]) (by simp only [go_sem]) ?_
    rintro r bx rfl
    simp only [go_sem]
    all_goals simp
  · simp only [go_sem]
    all_goals simp
end Go.AM

/-! ## LEff -/
namespace Go.AM

/-- one place: what a rule takes and gives -/
abbrev Tk := Int × Int
def feas : List Tk → Int → Prop
  | [], _ => True
  | t :: ts, v => t.1 ≤ v ∧ feas ts (v - t.1 + t.2)
def chg : List Tk → Int
  | [] => 0
  | t :: ts => t.2 - t.1 + chg ts
def effStep (p : Int × Int) (t : Tk) : Int × Int := (if p.1 ≤ t.1 - p.2 then t.1 - p.2 else p.1, p.2 + (t.2 - t.1))
def effFold (ts : List Tk) (p : Int × Int) : Int × Int := ts.foldl effStep p

theorem effFold_chg : ∀ (ts : List Tk) (p : Int × Int), (effFold ts p).2 = p.2 + chg ts
  | [], p => by simp [effFold, chg]
  | t :: ts, p => by
    have := effFold_chg ts (effStep p t)
    unfold effFold at *
    rw [List.foldl_cons, this]
    simp only [effStep, chg]; omega
theorem effFold_need : ∀ (ts : List Tk) (p : Int × Int) (v : Int), (effFold ts p).1 ≤ v ↔ p.1 ≤ v ∧ feas ts (v + p.2)
  | [], p, v => by simp [effFold, feas]
  | t :: ts, p, v => by
    have := effFold_need ts (effStep p t) v
    unfold effFold at *
    rw [List.foldl_cons, this]
    simp only [effStep, feas]
    rw [show v + (p.2 + (t.2 - t.1)) = v + p.2 - t.1 + t.2 by omega]
    constructor
    · rintro ⟨h1, h2⟩
      split at h1 <;> exact ⟨by omega, by omega, h2⟩
    · rintro ⟨h1, h2, h3⟩
      refine ⟨?_, h3⟩
      split <;> omega
theorem effFold_mono : ∀ (ts : List Tk) (p : Int × Int), p.1 ≤ (effFold ts p).1
  | [], p => Int.le_refl _
  | t :: ts, p => by
    have := effFold_mono ts (effStep p t)
    unfold effFold at *
    rw [List.foldl_cons]
    refine Int.le_trans ?_ this
    simp only [effStep]; split <;> omega
/-- what a sequence needs at one place, from 0 on -/
def needA (ts : List Tk) : Int := (effFold ts (0, 0)).1
theorem needA_iff {ts : List Tk} {v : Int} (hv : 0 ≤ v) : needA ts ≤ v ↔ feas ts v := by
  unfold needA
  rw [effFold_need]
  simp only [Int.add_zero]
  exact ⟨fun h => h.2, fun h => ⟨hv, h⟩⟩
theorem needA_nonneg (ts : List Tk) : 0 ≤ needA ts := effFold_mono ts (0, 0)
theorem feas_app : ∀ {ts us : List Tk} {v : Int}, feas (ts ++ us) v ↔ feas ts v ∧ feas us (v + chg ts)
  | [], us, v => by simp [feas, chg]
  | t :: ts, us, v => by
    simp only [List.cons_append, feas, chg]
    rw [feas_app, show v - t.1 + t.2 + chg ts = v + (t.2 - t.1 + chg ts) by omega, and_assoc]
theorem chg_app : ∀ {ts us : List Tk}, chg (ts ++ us) = chg ts + chg us
  | [], us => by simp [chg]
  | t :: ts, us => by simp only [List.cons_append, chg]; rw [chg_app]; omega
/-- k times -/
def rep (ts : List Tk) : Nat → List Tk
  | 0 => []
  | k + 1 => ts ++ rep ts k
theorem chg_rep (ts : List Tk) : ∀ k, chg (rep ts k) = k * chg ts
  | 0 => by simp [rep, chg]
  | k + 1 => by rw [rep, chg_app, chg_rep ts k, Int.natCast_add, Int.add_mul]; omega
/-- a cycle can be done k times from v: as often as its need is there at each beginning -/
theorem feas_rep {ts : List Tk} {v : Int} (_hn : ∀ t ∈ ts, 0 ≤ t.1) (hg : ∀ t ∈ ts, 0 ≤ t.2) (hv : 0 ≤ v) : ∀ k, feas (rep ts k) v ↔ ∀ i, i < k → needA ts ≤ v + i * chg ts := by
  have hend : ∀ (ts : List Tk) (v : Int), (∀ t ∈ ts, 0 ≤ t.2) → 0 ≤ v → feas ts v → 0 ≤ v + chg ts := by
    intro ts
    induction ts with
    | nil => intro v _ h _; simp [chg]; exact h
    | cons t ts ih =>
      intro v hg hv h
      have := ih (v - t.1 + t.2) (fun x hx => hg x (by simp [hx])) (by have := hg t (by simp); have := h.1; omega) h.2
      simp only [chg]; omega
  intro k
  induction k generalizing v with
  | zero => simp [rep, feas]
  | succ k ih =>
    rw [rep, feas_app]
    constructor
    · rintro ⟨h1, h2⟩ i hi
      cases i with
      | zero => simp; exact (needA_iff hv).2 h1
      | succ i =>
        have := (ih (hend ts v hg hv h1)).1 h2 i (by omega)
        rw [Int.natCast_add, Int.add_mul]; omega
    · intro h
      have h1 : feas ts v := (needA_iff hv).1 (by have := h 0 (by omega); simpa using this)
      refine ⟨h1, (ih (hend ts v hg hv h1)).2 fun i hi => ?_⟩
      have := h (i + 1) (by omega)
      rw [Int.natCast_add, Int.add_mul] at this; omega
/-- the number of times, where the change is negative -/
theorem times_iff {need v d : Int} (hd : d < 0) (hv : need ≤ v) (k : Nat) : (∀ i : Nat, i < k → need ≤ v + i * d) ↔ (k : Int) ≤ (v - need) / -d + 1 := by
  have hpos : 0 < -d := by omega
  have key : ∀ i : Int, need ≤ v + i * d ↔ i ≤ (v - need) / -d := fun i => by
    rw [Int.le_ediv_iff_mul_le hpos]
    rw [Int.mul_neg]; omega
  constructor
  · intro h
    cases k with
    | zero => have : 0 ≤ (v - need) / -d := Int.ediv_nonneg (by omega) (by omega); omega
    | succ k => have := (key k).1 (h k (by omega)); omega
  · intro h i hi
    exact (key i).2 (by omega)
end Go.AM

/-! ## LFlat -/
namespace Go.AM

/-- what the rules of a sequence take and give at one place -/
def tksF (rules : List RD) (c : List Int) (p : Nat) : List Tk := c.map fun k => (rules[k.toNat]!.need[p]!, rules[k.toNat]!.give[p]!)
def needL (np : Nat) (rules : List RD) (c : List Int) : List Int := (List.range np).map fun p => needA (tksF rules c p)
def chgL (np : Nat) (rules : List RD) (c : List Int) : List Int := (List.range np).map fun p => chg (tksF rules c p)
theorem needL_len (np : Nat) (rules : List RD) (c : List Int) : (needL np rules c).length = np := by simp [needL]
theorem chgL_len (np : Nat) (rules : List RD) (c : List Int) : (chgL np rules c).length = np := by simp [chgL]
theorem needL_at {np : Nat} {rules : List RD} {c : List Int} {p : Nat} (h : p < np) : (needL np rules c)[p]! = needA (tksF rules c p) := by
  rw [getElem!_pos _ p (by rw [needL_len]; exact h)]; simp [needL]
theorem chgL_at {np : Nat} {rules : List RD} {c : List Int} {p : Nat} (h : p < np) : (chgL np rules c)[p]! = chg (tksF rules c p) := by
  rw [getElem!_pos _ p (by rw [chgL_len]; exact h)]; simp [chgL]

/-! ### lists of numbers that are changed place by place -/
/-- f at the first i places, g at the others -/
def mixL (np i : Nat) (f g : Nat → Int) : List Int := (List.range np).map fun p => if p < i then f p else g p
theorem mixL_len (np i : Nat) (f g : Nat → Int) : (mixL np i f g).length = np := by simp [mixL]
theorem mixL_zero (np : Nat) (f g : Nat → Int) : mixL np 0 f g = (List.range np).map g := by simp [mixL]
theorem mixL_full (np : Nat) (f g : Nat → Int) : mixL np np f g = (List.range np).map f := by
  unfold mixL
  refine List.map_congr_left fun p hp => ?_
  rw [if_pos (List.mem_range.1 hp)]
theorem mixL_at {np i p : Nat} {f g : Nat → Int} (h : p < np) : (mixL np i f g)[p]! = if p < i then f p else g p := by
  rw [getElem!_pos _ p (by rw [mixL_len]; exact h)]; simp [mixL]
theorem mixL_set {np i : Nat} {f g : Nat → Int} : (mixL np i f g).set i (f i) = mixL np (i + 1) f g := by
  refine List.ext_getElem? fun j => ?_
  rw [List.getElem?_set]
  by_cases hij : i = j
  · subst hij
    simp only [mixL_len, if_pos]
    by_cases h : i < np
    · rw [if_pos h]
      unfold mixL
      rw [List.getElem?_map, List.getElem?_range h, Option.map_some, if_pos (by omega)]
    · rw [if_neg h, List.getElem?_eq_none (by rw [mixL_len]; omega)]
  · rw [if_neg hij]
    unfold mixL
    rw [List.getElem?_map, List.getElem?_map]
    by_cases h : j < np
    · rw [List.getElem?_range h, Option.map_some, Option.map_some]
      congr 1
      by_cases h2 : j < i
      · rw [if_pos h2, if_pos (by omega)]
      · rw [if_neg h2, if_neg (by omega)]
    · rw [List.getElem?_eq_none (by simp; omega)]; rfl

/-! ### bounds -/
theorem chg_bnd : ∀ {ts : List Tk} {B : Int}, (∀ t ∈ ts, 0 ≤ t.1 ∧ t.1 ≤ B ∧ 0 ≤ t.2 ∧ t.2 ≤ B) → 0 ≤ B → -(ts.length * B) ≤ chg ts ∧ chg ts ≤ ts.length * B
  | [], B, _, _ => by simp [chg]
  | t :: ts, B, h, hB => by
    have h1 := chg_bnd (fun x hx => h x (List.mem_cons_of_mem _ hx)) hB
    have h2 := h t (List.mem_cons_self ..)
    simp only [chg, List.length_cons, Int.natCast_add, Int.add_mul, Int.natCast_one, Int.one_mul]
    omega
theorem effFold_bnd : ∀ {ts : List Tk} {B : Int} {p : Int × Int}, (∀ t ∈ ts, 0 ≤ t.1 ∧ t.1 ≤ B ∧ 0 ≤ t.2 ∧ t.2 ≤ B) → 0 ≤ B → ∀ {M : Int}, 0 ≤ M → p.1 ≤ M + B → -M ≤ p.2 → (effFold ts p).1 ≤ M + (ts.length + 1) * B
  | [], B, p, _, _, M, _, h2, _ => by simp only [effFold, List.foldl_nil, List.length_nil]; simpa using h2
  | t :: ts, B, p, h, hB, M, hM, h2, h3 => by
    have ht := h t (List.mem_cons_self ..)
    have := effFold_bnd (p := effStep p t) (fun x hx => h x (List.mem_cons_of_mem _ hx)) hB (M := M + B) (by omega) (by simp only [effStep]; split <;> omega) (by simp only [effStep]; omega)
    unfold effFold at *
    rw [List.foldl_cons]
    refine Int.le_trans this ?_
    simp only [List.length_cons, Int.natCast_add, Int.add_mul, Int.natCast_one, Int.one_mul]
    omega
theorem needA_bnd {ts : List Tk} {B : Int} (h : ∀ t ∈ ts, 0 ≤ t.1 ∧ t.1 ≤ B ∧ 0 ≤ t.2 ∧ t.2 ≤ B) (hB : 0 ≤ B) : needA ts ≤ (ts.length + 1) * B := by
  have := effFold_bnd (p := (0, 0)) h hB (M := 0) (Int.le_refl _) (by simpa using hB) (by simp)
  unfold needA; omega

/-! ### how often -/
/-- how often at one place: none if there is no bound -/
def timeAt (n d v : Int) : Option Int := if v < n then some 0 else if 0 ≤ d then none else some ((v - n) / -d + 1)
def minO : Option Int → Option Int → Option Int
  | none, x => x
  | some a, none => some a
  | some a, some b => some (if b < a then b else a)
def timesP (need eff v : List Int) : Nat → Option Int
  | 0 => none
  | i + 1 => minO (timesP need eff v i) (timeAt need[i]! eff[i]! v[i]!)
def withinO (k : Int) : Option Int → Prop
  | none => True
  | some n => k ≤ n
theorem within_min {k : Int} {a b : Option Int} : withinO k (minO a b) ↔ withinO k a ∧ withinO k b := by
  cases a with
  | none => simp [minO, withinO]
  | some a =>
    cases b with
    | none => simp [minO, withinO]
    | some b =>
      simp only [minO, withinO]
      split <;> omega
theorem timeAt_iff {n d v : Int} (k : Nat) : withinO k (timeAt n d v) ↔ ∀ i : Nat, i < k → n ≤ v + i * d := by
  unfold timeAt
  split
  · rename_i h
    simp only [withinO]
    constructor
    · intro hk i hi; omega
    · intro hh
      cases k with
      | zero => simp
      | succ k => have := hh 0 (by omega); simp at this; omega
  · rename_i h
    split
    · rename_i hd
      simp only [withinO, true_iff]
      intro i _
      have : (0 : Int) ≤ i * d := Int.mul_nonneg (by omega) hd
      omega
    · rename_i hd
      exact (times_iff (by omega) (by omega) k).symm
theorem timesP_iff {need eff v : List Int} (k : Nat) : ∀ np, withinO k (timesP need eff v np) ↔ ∀ p, p < np → ∀ i : Nat, i < k → need[p]! ≤ v[p]! + i * eff[p]!
  | 0 => by simp [timesP, withinO]
  | np + 1 => by
    rw [timesP, within_min, timesP_iff k np, timeAt_iff]
    constructor
    · rintro ⟨h1, h2⟩ p hp
      by_cases h : p = np
      · subst h; exact h2
      · exact h1 p (by omega)
    · intro h
      exact ⟨fun p hp => h p (by omega), h np (by omega)⟩
theorem timeAt_low {n d v : Int} {k : Int} (h : timeAt n d v = some k) : 0 ≤ k := by
  unfold timeAt at h
  split at h
  · injection h with h; omega
  · split at h
    · cases h
    · injection h with h
      have : 0 ≤ (v - n) / -d := Int.ediv_nonneg (by omega) (by omega)
      omega
theorem timesP_low {need eff v : List Int} : ∀ {np : Nat} {k : Int}, timesP need eff v np = some k → 0 ≤ k
  | 0, k, h => by simp [timesP] at h
  | np + 1, k, h => by
    rw [timesP] at h
    cases h1 : timesP need eff v np with
    | none => rw [h1] at h; exact timeAt_low h
    | some a =>
      have ha := timesP_low h1
      cases h2 : timeAt need[np]! eff[np]! v[np]! with
      | none => rw [h1, h2] at h; injection h with h; omega
      | some b =>
        have hb := timeAt_low h2
        rw [h1, h2] at h; injection h with h
        split at h <;> omega
/-- a place where it cannot be done once -/
theorem timesP_zero {need eff v : List Int} {i : Nat} (hl : v[i]! < need[i]!) : ∀ {np : Nat}, i < np → timesP need eff v np = some 0
  | 0, h => by omega
  | np + 1, h => by
    rw [timesP]
    by_cases e : i = np
    · subst e
      have : timeAt need[i]! eff[i]! v[i]! = some 0 := by unfold timeAt; rw [if_pos hl]
      rw [this]
      cases h1 : timesP need eff v i with
      | none => rfl
      | some a => have := timesP_low h1; simp only [minO]; congr 1; split <;> omega
    · rw [timesP_zero hl (show i < np by omega)]
      cases h2 : timeAt need[np]! eff[np]! v[np]! with
      | none => rfl
      | some b => have := timeAt_low h2; simp only [minO]; congr 1; split <;> omega
/-- behind k times -/
def afterL (np : Nat) (eff v : List Int) (k : Int) : List Int := (List.range np).map fun p => v[p]! + k * eff[p]!
theorem afterL_len (np : Nat) (eff v : List Int) (k : Int) : (afterL np eff v k).length = np := by simp [afterL]
theorem afterL_at {np : Nat} {eff v : List Int} {k : Int} {p : Nat} (h : p < np) : (afterL np eff v k)[p]! = v[p]! + k * eff[p]! := by
  rw [getElem!_pos _ p (by rw [afterL_len]; exact h)]; simp [afterL]
def doesB (need eff v : List Int) (np : Nat) (k : Int) : Bool := match timesP need eff v np with
  | none => true
  | some n => decide (k ≤ n)
theorem does_iff {need eff v : List Int} {np : Nat} {k : Int} : doesB need eff v np k = true ↔ withinO k (timesP need eff v np) := by
  unfold doesB withinO
  cases timesP need eff v np <;> simp
end Go.AM

/-! ## FA -/
namespace Go.AM
open Go Go.Proofs Go.RowKit

set_option maxRecDepth 100000 in
theorem con_mplain1 (r : RD) : Con Tryz.prog 170 [vRule r] [] fun x _ => x = .sc (.bool (!stillB r)) := by
  refine Con.intro Tryz.func170 rfl Tryz.ntmps170 Tryz.results170 (by kernel_rfl) (by simp) 1 (by simp) ?_
  unfold stillB
  simp only [go_sem]
  cases r.move <;> simp
set_option maxRecDepth 100000 in
theorem con_mplain (m : MD) (hk : m.kind = 1) (hl : m.rules.length ≤ 9223372036854775806) : Con Tryz.prog 122 [vM m] [] fun x _ => x = vb (m.rules.all stillB) := by
  refine Con.intro Tryz.func122 rfl Tryz.ntmps122 Tryz.results122 (by kernel_rfl) (by simp) 1 (by simp) ?_
  simp only [go_sem, hk]
  refine CallU.free (con_containsRule m.rules 170 [] (fun r => !stillB r) rfl (fun r _ => con_mplain1 r) hl) (by simp only [go_sem]) (by simp only [go_sem]) ?_
  rintro r bx rfl
  simp only [go_sem, any_not]
/-- a number of no rule -/
def badRule (n : Nat) (k : Int) : Bool := decide (k < 0) || decide ((n : Int) ≤ k)
set_option maxRecDepth 100000 in
theorem con_eff1 (m : MD) (k : Int) : Con Tryz.prog 123 [vi k, .fp (cM m) 0] [] fun x _ => x = .sc (.bool (badRule m.rules.length k)) := by
  refine Con.intro Tryz.func123 rfl Tryz.ntmps123 Tryz.results123 (by kernel_rfl) (by simp) 0 (by simp) ?_
  unfold badRule
  by_cases h : k < 0
  · simp only [go_sem, cM, vss, h, decide_true, Bool.true_or]
  · by_cases h2 : (m.rules.length : Int) ≤ k
    · simp only [go_sem, cM, vss, h, h2, List.length_map, decide_true, decide_false, Bool.false_or]
    · simp only [go_sem, cM, vss, h, h2, List.length_map, decide_false, Bool.false_or]
/-- rules' numbers -/
def RulesOk (rules : List RD) (c : List Int) : Prop := ∀ k ∈ c, 0 ≤ k ∧ k < rules.length
theorem rules_any {rules : List RD} {c : List Int} (h : RulesOk rules c) : c.any (badRule rules.length) = false := by
  rw [List.any_eq_false]
  intro k hk
  have := h k hk
  unfold badRule
  rw [decide_eq_false (by omega), decide_eq_false (by omega)]
  simp
/-- rules with the effects of small numbers -/
def SmallR (np : Nat) (r : RD) : Prop := r.need.length = np ∧ r.give.length = np ∧ (∀ x ∈ r.need, 0 ≤ x ∧ x ≤ 16) ∧ ∀ x ∈ r.give, 0 ≤ x ∧ x ≤ 16
theorem good_small {m : MD} (h : GoodM m) : ∀ r ∈ m.rules, SmallR m.places.length r := fun r hr => by
  have h3 := (h.rules r hr).1
  unfold ruleB changesB smallB betweenB at h3
  simp only [Bool.and_eq_true, decide_eq_true_eq, List.all_eq_true] at h3
  exact ⟨h3.1.2.1.1.1, h3.1.2.1.1.2, h3.1.2.1.2, h3.1.2.2⟩
theorem tks_bnd {np : Nat} {rules : List RD} {c : List Int} {p : Nat} (h : ∀ r ∈ rules, SmallR np r) (hc : RulesOk rules c) (hp : p < np) : ∀ t ∈ tksF rules c p, 0 ≤ t.1 ∧ t.1 ≤ 16 ∧ 0 ≤ t.2 ∧ t.2 ≤ 16 := fun t ht => by
  obtain ⟨k, hk, rfl⟩ := List.mem_map.1 ht
  have hk' := hc k hk
  have hr := h _ (mem_bangI (show k.toNat < rules.length by omega))
  unfold SmallR at hr
  have h1 := hr.2.2.1 _ (mem_bangI (show p < rules[k.toNat]!.need.length by omega))
  have h2 := hr.2.2.2 _ (mem_bangI (show p < rules[k.toNat]!.give.length by omega))
  exact ⟨h1.1, h1.2, h2.1, h2.2⟩
theorem tks_len (rules : List RD) (c : List Int) (p : Nat) : (tksF rules c p).length = c.length := by simp [tksF]
theorem tks_take {rules : List RD} {c : List Int} {p j : Nat} (h : j < c.length) : tksF rules (c.take (j + 1)) p = tksF rules (c.take j) p ++ [(rules[c[j]!.toNat]!.need[p]!, rules[c[j]!.toNat]!.give[p]!)] := by
  unfold tksF
  rw [List.take_add_one, List.getElem?_eq_getElem h, List.map_append, getElem!_pos c j h]; rfl
theorem need_take {rules : List RD} {c : List Int} {p j : Nat} (h : j < c.length) : needA (tksF rules (c.take (j + 1)) p) = if needA (tksF rules (c.take j) p) ≤ rules[c[j]!.toNat]!.need[p]! - chg (tksF rules (c.take j) p) then rules[c[j]!.toNat]!.need[p]! - chg (tksF rules (c.take j) p) else needA (tksF rules (c.take j) p) := by
  have h2 := effFold_chg (tksF rules (c.take j) p) (0, 0)
  simp only [Int.zero_add] at h2
  unfold needA
  rw [tks_take h]
  unfold effFold at *
  rw [List.foldl_append, List.foldl_cons, List.foldl_nil]
  generalize List.foldl effStep (0, 0) (tksF rules (c.take j) p) = q at *
  rw [← h2]; rfl
theorem chg_take {rules : List RD} {c : List Int} {p j : Nat} (h : j < c.length) : chg (tksF rules (c.take (j + 1)) p) = chg (tksF rules (c.take j) p) + (rules[c[j]!.toNat]!.give[p]! - rules[c[j]!.toNat]!.need[p]!) := by
  rw [tks_take h, chg_app]; simp [chg]
theorem rules_take {rules : List RD} {c : List Int} (j : Nat) (h : RulesOk rules c) : RulesOk rules (c.take j) := fun k hk => h k (List.mem_of_mem_take hk)
set_option maxRecDepth 100000 in
set_option maxHeartbeats 4000000 in
theorem con_cEffect (m : MD) (c : List Int) (h : GoodM m) (hst : m.rules.all stillB = true) (hc : RulesOk m.rules c) (hl : c.length ≤ 64) :
    Con Tryz.prog 64 [vM m, vs 0 c] [] fun r _ => r = .tup [vs 2 (needL m.places.length m.rules c), vs 3 (chgL m.places.length m.rules c), vi 0] := by
  refine Con.intro Tryz.func64 rfl Tryz.ntmps64 Tryz.results64 (by kernel_rfl) (by simp) 0 (by simp) ?_
  have h2 := h.places
  have h3 := h.few
  have hsm := good_small h
  have hl2 : ¬ (64 : Int) < (c.length : Int) := by omega
  simp only [go_sem, vM, cM, vss]
  refine CallU.free (con_check m h) (by simp only [go_sem]) (by simp only [go_sem, vM, cM, vss]) ?_
  rintro x bx rfl
  simp only [go_sem]
  refine CallU.free (con_mplain m h.kind (by omega)) (by simp only [go_sem]) (by simp only [go_sem, vM, cM, vss]) ?_
  rintro x bx rfl
  simp only [go_sem, hst, hl2]
  refine CallU.look (con_containsInt c 123 [.fp (cM m) 0] (badRule m.rules.length) (by simp only [go_sem]) (fun x _ => con_eff1 m x) (by omega)) (by simp only [go_sem]) (by simp only [go_sem, cM, vss]) ?_
  rintro x bx rfl
  simp only [go_sem, rules_any hc]
  refine DrawK.walk 10 mixed (by kernel_rfl) ?_
  simp only [go_sem, List.length_map]
  refine ⟨Nat.le_refl _, by omega, by omega, Nat.le_refl _, by omega, by omega, ?_⟩
  obtain ⟨np, hnp⟩ : ∃ np, np = m.places.length := ⟨_, rfl⟩
  rw [← hnp] at h2 hsm ⊢
  have hrep : List.replicate np (AV.sc (.int .i64 0)) = (needL np m.rules (c.take 0)).map vi := by unfold needL; simp [tksF, needA, effFold, List.map_const']; exact .inr rfl
  have hrep2 : List.replicate np (AV.sc (.int .i64 0)) = (chgL np m.rules (c.take 0)).map vi := by unfold chgL; simp [tksF, chg, List.map_const']; exact .inr rfl
  refine LoopK.intro (fun j : Nat => ⟨94, [(2, .pb 0 0), (8, vs 2240 (needL np m.rules (c.take j))), (9, vs 2496 (chgL np m.rules (c.take j))), (39, vs 0 c), (40, vi c.length), (41, vi j)], [cM m] ++ Rk 14 j⟩)
    (fun j => c.length - j) (fun j => j ≤ c.length) 0 (by omega) ?_ ?_
  · simp only [go_sem, cM, vss, Rk, List.replicate_zero, List.append_nil]
    exact ⟨by rw [hrep]; exact leV_refl _, by rw [hrep2]; exact leV_refl _⟩
  rintro j hj
  have nl := needL_len np m.rules (c.take j)
  have cl := chgL_len np m.rules (c.take j)
  by_cases hjl : j < c.length
  case neg =>
    have e1 : c.take j = c := List.take_of_length_le (by omega)
    simp only [go_sem, cM, vss, hjl, e1]
  have hck := hc _ (mem_bangI hjl)
  obtain ⟨k, ek, hk⟩ : ∃ k : Nat, c[j]! = k ∧ k < m.rules.length := ⟨c[j]!.toNat, by omega, by omega⟩
  have hg := getv hjl
  have hgr := getRule hk
  have hrk := hsm _ (mem_bangI hk)
  have ra : ∀ L : List (List AV), (Rk 14 j ++ L)[(Rk 14 j).length]? = L[0]? := fun L => app_at0 rfl
  have rs : ∀ (L : List (List AV)) z, (Rk 14 j ++ L).set (Rk 14 j).length z = Rk 14 j ++ L.set 0 z := fun L z => app_set0 rfl
  have hw : IntKind.i64.wrap (j + 1) = j + 1 := wrap_in (by omega) (by omega)
  rw [ek] at hg
  simp only [go_sem, cM, vss, hjl, hg, hk, hgr, ra, rs, List.cons_append, List.nil_append, List.length_map, nl]
  obtain ⟨r, er⟩ : ∃ r, r = m.rules[k]! := ⟨_, rfl⟩
  rw [← er] at hrk ⊢
  have hbnd : ∀ p, p < np → 0 ≤ needA (tksF m.rules (c.take j) p) ∧ needA (tksF m.rules (c.take j) p) ≤ 1040 ∧ -1024 ≤ chg (tksF m.rules (c.take j) p) ∧ chg (tksF m.rules (c.take j) p) ≤ 1024 := fun p hp => by
    have h5 := tks_bnd hsm (rules_take j hc) hp
    have h6 := needA_bnd h5 (by omega)
    have h7 := chg_bnd h5 (by omega)
    have h8 := tks_len m.rules (c.take j) p
    have h9 : (c.take j).length ≤ 64 := by rw [List.length_take]; omega
    have h10 := needA_nonneg (tksF m.rules (c.take j) p)
    rw [h8] at h6 h7
    omega
  have hnx : ∀ p, needA (tksF m.rules (c.take (j + 1)) p) = if needA (tksF m.rules (c.take j) p) ≤ r.need[p]! - chg (tksF m.rules (c.take j) p) then r.need[p]! - chg (tksF m.rules (c.take j) p) else needA (tksF m.rules (c.take j) p) := fun p => by
    have := need_take (rules := m.rules) (p := p) hjl
    rw [ek, Int.toNat_natCast, ← er] at this; exact this
  have hcx : ∀ p, chg (tksF m.rules (c.take (j + 1)) p) = chg (tksF m.rules (c.take j) p) + (r.give[p]! - r.need[p]!) := fun p => by
    have := chg_take (rules := m.rules) (p := p) hjl
    rw [ek, Int.toNat_natCast, ← er] at this; exact this
  obtain ⟨f1, e1⟩ : ∃ f1 : Nat → Int, f1 = fun p => needA (tksF m.rules (c.take (j + 1)) p) := ⟨_, rfl⟩
  obtain ⟨f0, e0⟩ : ∃ f0 : Nat → Int, f0 = fun p => needA (tksF m.rules (c.take j) p) := ⟨_, rfl⟩
  obtain ⟨g1, e3⟩ : ∃ g1 : Nat → Int, g1 = fun p => chg (tksF m.rules (c.take (j + 1)) p) := ⟨_, rfl⟩
  obtain ⟨g0, e2⟩ : ∃ g0 : Nat → Int, g0 = fun p => chg (tksF m.rules (c.take j) p) := ⟨_, rfl⟩
  have n0 : needL np m.rules (c.take j) = mixL np 0 f1 f0 := by rw [mixL_zero, e0]; rfl
  have n1 : needL np m.rules (c.take (j + 1)) = mixL np np f1 f0 := by rw [mixL_full, e1]; rfl
  have c0 : chgL np m.rules (c.take j) = mixL np 0 g1 g0 := by rw [mixL_zero, e2]; rfl
  have c1 : chgL np m.rules (c.take (j + 1)) = mixL np np g1 g0 := by rw [mixL_full, e3]; rfl
  rw [n0, c0]
  refine LoopK.intro (fun i : Nat => ⟨94, [(2, .pb 0 0), (8, vs 2240 (mixL np i f1 f0)), (9, vs 2496 (mixL np i g1 g0)), (12, .pb ((Rk 14 j).length + 1) 0), (39, vs 0 c), (40, vi c.length), (41, vi j), (51, vi np), (52, vi i)], cM m :: (Rk 14 j ++ [[vStr r.name, vi r.src, vi r.dst, vs 0 r.need, vs 0 r.give, vs 0 r.move, vi r.channel, vi r.act, vi r.letter, vs 0 r.path, vs 0 r.next, .sl 0 3 (r.takes.map vTake), vs 0 r.makes, vi r.second]])⟩)
    (fun i => np - i) (fun i => i ≤ np) 0 (by omega) ?_ ?_
  · simp only [go_sem, cM, vss]
    all_goals exact leB_self _
  rintro i hi
  have ml := mixL_len np i f1 f0
  have ml2 := mixL_len np i g1 g0
  by_cases hil : i < np
  · have hb := hbnd i hil
    have hw2 : IntKind.i64.wrap (i + 1) = i + 1 := wrap_in (by omega) (by omega)
    have q1 := getv (l := mixL np i f1 f0) (i := i) (by omega)
    have q2 := getv (l := mixL np i g1 g0) (i := i) (by omega)
    have q3 := getv (l := r.need) (i := i) (by rw [hrk.1]; exact hil)
    have q4 := getv (l := r.give) (i := i) (by rw [hrk.2.1]; exact hil)
    have l3 : i < r.need.length := by rw [hrk.1]; exact hil
    have l4 : i < r.give.length := by rw [hrk.2.1]; exact hil
    have b3 := hrk.2.2.1 _ (mem_bangI l3)
    have b4 := hrk.2.2.2 _ (mem_bangI l4)
    have f0i : f0 i = needA (tksF m.rules (c.take j) i) := by rw [e0]
    have g0i : g0 i = chg (tksF m.rules (c.take j) i) := by rw [e2]
    have hf1 := hnx i
    have hg1 := hcx i
    have f1i : f1 i = if f0 i ≤ r.need[i]! - g0 i then r.need[i]! - g0 i else f0 i := by rw [e1, f0i, g0i]; exact hf1
    have g1i : g1 i = g0 i + (r.give[i]! - r.need[i]!) := by rw [e3, g0i]; exact hg1
    rw [← f0i, ← g0i] at hb
    rw [mixL_at hil, if_neg (by omega)] at q1 q2
    have w1 : IntKind.i64.wrap (r.need[i]! - g0 i) = r.need[i]! - g0 i := wrap_in (by omega) (by omega)
    have w2 : IntKind.i64.wrap (r.give[i]! - r.need[i]!) = r.give[i]! - r.need[i]! := wrap_in (by omega) (by omega)
    have w3 : IntKind.i64.wrap (g0 i + (r.give[i]! - r.need[i]!)) = g1 i := by rw [g1i]; exact wrap_in (by omega) (by omega)
    have hmx : max (f0 i) (r.need[i]! - g0 i) = f1 i := by rw [f1i, Int.max_def]
    have hs1 := mixL_set (np := np) (i := i) (f := f1) (g := f0)
    have hs2 := mixL_set (np := np) (i := i) (f := g1) (g := g0)
    simp only [go_sem, cM, vss, hil]
    refine DrawK.walk 18 mixed (by kernel_rfl) ?_
    simp only [go_sem, ml, ml2, hil, ra, q1, q2, q3, l3, w1]
    refine DrawK.walk 17 mixed (by kernel_rfl) ?_
    simp only [go_sem, ml2, hil, ra, q2, q3, q4, l3, l4, w2, w3]
    rw [hmx]
    simp only [modify_vi, hs1, hs2]
    refine roundK.intro (i + 1) (by show i + 1 ≤ np; omega) (by show np - (i + 1) < np - i; omega) ?_
    simp only [go_sem, hw2]
  · obtain rfl : i = np := by omega
    simp only [go_sem, cM, vss, hil, hw]
    refine roundK.intro (j + 1) (by omega) (by omega) ?_
    simp only [go_sem, n1, c1, Rk_succ]
    all_goals exact leB_RkA ⟨leC_any _ 14 rfl, trivial⟩
end Go.AM

/-! ## CmU -/
namespace Go.AM
open Go Go.Proofs Go.RowKit

def vq (x : Int) : AV := .sc (.int .u64 x)
attribute [go_sem] vq
set_option maxRecDepth 100000 in
theorem con_mul64 (n : Nat) (hn : n ≤ 8) : Con Tryz.prog 201 [vq 1, vq n] [] fun r _ => r = .tup [vq 0, vq n] := by
  refine Con.intro Tryz.func201 rfl Tryz.ntmps201 Tryz.results201 (by kernel_rfl) (by simp) 0 (by simp) ?_
  simp only [go_sem]
  have h : n = 0 ∨ n = 1 ∨ n = 2 ∨ n = 3 ∨ n = 4 ∨ n = 5 ∨ n = 6 ∨ n = 7 ∨ n = 8 := by omega
  rcases h with rfl | rfl | rfl | rfl | rfl | rfl | rfl | rfl | rfl <;> (show AV.tup _ = AV.tup _; first | rfl | kernel_rfl)
set_option maxRecDepth 100000 in
theorem con_mul (n : Nat) (hn : n ≤ 8) : Con Tryz.prog 159 [vq 1, vq n] [] fun r _ => r = .tup [vq 0, vq n] := by
  refine Con.intro Tryz.func159 rfl Tryz.ntmps159 Tryz.results159 (by kernel_rfl) (by simp) 0 (by simp) ?_
  simp only [go_sem]
  refine CallU.free (con_mul64 n hn) (by simp only [go_sem]) (by simp only [go_sem]) ?_
  rintro r bx rfl
  simp only [go_sem]
theorem rep_zero (n : Nat) : List.replicate n (AV.sc (.int .i64 0)) = (List.replicate n (0 : Int)).map vi := by simp [vi]
theorem leafAll_vi (l : List Int) : leafAll (l.map vi) = true := by simp [leafAll, vi, AV.leafy]
theorem setSeg_all {y : Int} {l m : List Int} {k : Nat} (hf : k + m.length ≤ l.length) (hl : ∀ j, j < k → l[j]! = y) (hm : ∀ x ∈ m, x = y) : ∀ j, j < k + m.length → (setSeg l k m)[j]! = y := by
  intro j hj
  rw [setSeg_eq _ _ _ hf]
  have hk : k ≤ l.length := by omega
  by_cases h : j < k
  · have h2 := hl j h
    rw [getElem!_pos l j (by omega)] at h2
    rw [List.append_assoc, getElem!_pos _ j (by simp; omega), List.getElem_append_left (by simp; omega), List.getElem_take]; exact h2
  · rw [getElem!_pos _ j (by simp; omega), List.getElem_append_left (by simp; omega), List.getElem_append_right (by simp; omega)]
    exact hm _ (List.getElem_mem _)
set_option maxRecDepth 100000 in
theorem con_repeat (y : Int) (n : Nat) (h1 : 1 ≤ n) (hn : n ≤ 8) : Con Tryz.prog 98 [vs 0 [y], vi n] [] fun r _ => r = vs 2 (List.replicate n y) := by
  refine Con.intro Tryz.func98 rfl Tryz.ntmps98 Tryz.results98 (by kernel_rfl) (by simp) 0 (by simp) ?_
  have g0 : ¬ (n : Int) < 0 := by omega
  have w1 : IntKind.u64.wrap (1 : Int) = 1 := by kernel_rfl
  have w2 : IntKind.u64.wrap (n : Int) = n := by rw [IntKind.wrap_u64]; omega
  have w3 : IntKind.i64.wrap (n : Int) = n := wrap_in (by omega) (by omega)
  have g1 : ¬ (9223372036854775807 : Int) < n := by omega
  simp only [go_sem, g0, w1, w2]
  refine CallU.free (con_mul n hn) (by simp only [go_sem]) (by simp only [go_sem]) ?_
  rintro r bx rfl
  have t1 : List.take (n - 0) [AV.sc (Value.int .i64 y)] = [y].map vi := by
    rw [List.take_of_length_le (by simp; omega)]; simp [vi]
  have hl1 : leafAll [AV.sc (Value.int .i64 y)] = true := rfl
  have m1 : min 1 (n - 0) = 1 := by omega
  simp only [go_sem, g1, w3, rep_zero, List.length_replicate, t1, m1, List.map_cons, List.map_nil]
  refine ⟨Nat.le_refl _, by omega, by omega, by omega, ?_⟩
  refine LoopK.intro (fun p : List Int × Nat => ⟨48, [(4, .nil), (7, .sl 1984 1 (p.1.map vi)), (8, .sc (.int .i64 p.2))], []⟩)
    (fun p => n - p.2) (fun p => 1 ≤ p.2 ∧ p.2 ≤ n ∧ p.1.length = n ∧ ∀ j, j < p.2 → p.1[j]! = y) (setSeg (List.replicate n 0) 0 [y], 1) ⟨by simp, h1, by simp [setSeg_length], fun j hj => ?_⟩ ?_ ?_
  · have : j = 0 := by simp at hj; exact hj
    subst this
    have h0 : 0 < n := by omega
    simp [setSeg, h0]
  · simp only [go_sem, setSeg, List.map_set]
  rintro ⟨l, k⟩ ⟨k1, k2, k3, k4⟩
  simp only at k1 k2 k3 k4
  by_cases hk : k < n
  case neg =>
    have e : l = List.replicate n y := by
      apply List.ext_getElem?
      intro j
      by_cases hj : j < n
      · have := k4 j (by omega)
        rw [List.getElem?_replicate, if_pos hj, ← this]; simp [k3, hj]
      · rw [List.getElem?_eq_none (by omega), List.getElem?_eq_none (by simp; omega)]
    simp only [go_sem, hk, k3]
    rw [e]
  simp only [go_sem, hk, k3]
  refine DrawK.front [0] 7 mixed (by kernel_rfl) ?_
  have q0 : ¬ k = 0 := by omega
  have tk : ∀ m : Nat, List.take m (List.map vi l) = (List.take m l).map vi := fun m => List.map_take.symm
  have tk2 : List.take (n - k) (List.map vi (List.take k l)) = ((l.take k).take (n - k)).map vi := List.map_take.symm
  have hmin : min (min k n) (n - k) = min k (n - k) := by omega
  have hw : IntKind.i64.wrap (k + (min k (n - k) : Nat)) = (k + min k (n - k) : Nat) := by rw [wrap_in (by omega) (by omega)]; omega
  simp only [go_sem, hk, k3, k2, List.length_take, tk, tk2, setSeg_map, hmin, hw]
  have hml : ((l.take k).take (n - k)).length = min k (n - k) := by simp only [List.length_take]; omega
  have hmt : ∀ x ∈ (l.take k).take (n - k), x = y := fun x hx => by
    have hx := List.mem_of_mem_take hx
    obtain ⟨j, hj⟩ := List.getElem?_of_mem hx
    rw [List.getElem?_take] at hj
    split at hj
    · rename_i hjk
      have := k4 j hjk
      rw [bang_of hj] at this; exact this
    · cases hj
  have hset := setSeg_all (l := l) (m := (l.take k).take (n - k)) (k := k) (by rw [hml]; omega) k4 hmt
  rw [hml] at hset
  refine ⟨by omega, leafAll_vi _, roundK.intro (setSeg l k ((l.take k).take (n - k)), k + min k (n - k)) ⟨by show 1 ≤ k + min k (n - k); omega, by show k + min k (n - k) ≤ n; omega, by show (setSeg _ _ _).length = n; rw [setSeg_length]; exact k3, hset⟩ (by show n - (k + min k (n - k)) < n - k; omega) ?_⟩
  simp only [go_sem]
set_option maxRecDepth 100000 in
theorem con_clone (l : List Int) (h1 : 1 ≤ l.length) (h2 : l.length ≤ 1000000) : Con Tryz.prog 68 [vs 0 l] [] fun r _ => r = vs 2 l := by
  refine Con.intro Tryz.func68 rfl Tryz.ntmps68 Tryz.results68 (by kernel_rfl) (by simp) 0 (by simp) ?_
  cases l with
  | nil => simp at h1
  | cons x l =>
    simp only [List.length_cons] at h2
    simp only [go_sem]
    simp only [roomFor]
    omega
end Go.AM

/-! ## FB -/
namespace Go.AM
open Go Go.Proofs Go.RowKit

theorem con_cEffectF (m : MD) (c : List Int) (h : GoodM m) (hst : m.rules.all stillB = true) (hc : RulesOk m.rules c) (hl : c.length ≤ 64) :
    Con Tryz.prog 64 [vM m, vs 0 c] [] fun r _ => r = .tup [vs 0 (needL m.places.length m.rules c), vs 0 (chgL m.places.length m.rules c), vi 0] :=
  ((con_cEffect m c h hst hc hl).freezeR fun _ => true).mono fun r _ ⟨r0, h0, h1⟩ => by
    subst h0; subst h1; rfl
/-- each rule ends where the next one begins -/
def chainB (rules : List RD) (c : List Int) : Bool := (List.range c.length).all fun i => rules[c[i]!.toNat]!.dst == rules[c[(i + 1) % c.length]!.toNat]!.src
theorem chain_bad {rules : List RD} {c : List Int} {i : Nat} (h : i < c.length) (hb : rules[c[i]!.toNat]!.dst ≠ rules[c[(i + 1) % c.length]!.toNat]!.src) : chainB rules c = false := by
  unfold chainB
  rw [List.all_eq_false]
  exact ⟨i, List.mem_range.2 h, by simpa using hb⟩
theorem chain_good {rules : List RD} {c : List Int} (h : ∀ i, i < c.length → rules[c[i]!.toNat]!.dst = rules[c[(i + 1) % c.length]!.toNat]!.src) : chainB rules c = true := by
  unfold chainB
  rw [List.all_eq_true]
  intro i hi
  exact beq_iff_eq.2 (h i (List.mem_range.1 hi))
theorem chain_at {rules : List RD} {c : List Int} (h : chainB rules c = true) {i : Nat} (hi : i < c.length) : rules[c[i]!.toNat]!.dst = rules[c[(i + 1) % c.length]!.toNat]!.src := by
  unfold chainB at h
  rw [List.all_eq_true] at h
  exact beq_iff_eq.1 (h i (List.mem_range.2 hi))
/-- the state in which a cycle begins, or the error -/
def fcheckS (rules : List RD) (c : List Int) : Int := if c.length = 0 then 0 else if chainB rules c then rules[c[0]!.toNat]!.src else 0
def fcheckE (rules : List RD) (c : List Int) : Int := if c.length = 0 then 43 else if chainB rules c then 0 else 43
set_option maxRecDepth 100000 in
set_option maxHeartbeats 4000000 in
theorem con_fcheck (m : MD) (c : List Int) (h : GoodM m) (hst : m.rules.all stillB = true) (hc : RulesOk m.rules c) (hl : c.length ≤ 64) :
    Con Tryz.prog 17 [vM m, vs 0 c] [] fun r _ => r = .tup [vi (fcheckS m.rules c), vi (fcheckE m.rules c)] := by
  refine Con.intro Tryz.func17 rfl Tryz.ntmps17 Tryz.results17 (by kernel_rfl) (by simp) 0 (by simp) ?_
  have h3 := h.few
  simp only [go_sem, vM, cM, vss]
  refine CallU.free (con_cEffectF m c h hst hc hl) (by simp only [go_sem]) (by simp only [go_sem, vM, cM, vss]) ?_
  rintro x bx rfl
  by_cases h0 : c.length = 0
  · have h0' : ((c.length : Int) == 0) = true := by rw [h0]; rfl
    simp only [go_sem, fcheckS, fcheckE, h0, if_true]
  have h0' : ((c.length : Int) == 0) = false := beq_eq_false_iff_ne.2 (by omega)
  simp only [go_sem, h0']
  refine LoopK.intro (fun i : Nat => ⟨60, [(1, vs 0 c), (2, .pb 0 0), (24, vs 0 c), (25, vi c.length), (26, vi i)], [cM m]⟩)
    (fun i => c.length - i) (fun i => i ≤ c.length ∧ ∀ j, j < i → m.rules[c[j]!.toNat]!.dst = m.rules[c[(j + 1) % c.length]!.toNat]!.src) 0 ⟨by omega, fun j hj => by omega⟩ ?_ ?_
  · simp only [go_sem, cM, vss]
  rintro i ⟨hi, hb⟩
  by_cases hil : i < c.length
  · have hm1 : (i + 1) % c.length < c.length := Nat.mod_lt _ (by omega)
    have k1 := hc _ (mem_bangI hil)
    have k2 := hc _ (mem_bangI hm1)
    obtain ⟨a, ea, ha⟩ : ∃ k : Nat, c[i]! = k ∧ k < m.rules.length := ⟨c[i]!.toNat, by omega, by omega⟩
    obtain ⟨b, eb, hb2⟩ : ∃ k : Nat, c[(i + 1) % c.length]! = k ∧ k < m.rules.length := ⟨c[(i + 1) % c.length]!.toNat, by omega, by omega⟩
    have hg := getv hil
    have hg2 := getv hm1
    have hr1 := getRule ha
    have hr2 := getRule hb2
    rw [ea] at hg
    rw [eb] at hg2
    have hw : IntKind.i64.wrap (i + 1) = i + 1 := wrap_in (by omega) (by omega)
    simp only [go_sem, cM, vss, hil, hg]
    refine DrawK.walk 20 mixed (by kernel_rfl) ?_
    obtain ⟨q, eq⟩ : ∃ q, q = (i + 1) % c.length := ⟨_, rfl⟩
    have htm : ((i : Int) + 1).tmod c.length = (q : Int) := by rw [eq, Int.tmod_eq_emod_of_nonneg (by omega)]; norm_cast
    rw [← eq] at hm1 hg2 eb
    have hn0 : ((c.length : Int) = 0) = False := eq_false (by omega)
    have hq0 : (0 : Int) ≤ q := by omega
    simp only [go_sem, hw, ha, hr1, hb2, hr2, hg2, htm, hm1, hn0, hq0]
    by_cases hd : m.rules[a]!.dst = m.rules[b]!.src
    · have hd' : (m.rules[a]!.dst != m.rules[b]!.src) = false := by rw [hd]; simp
      simp only [go_sem, hd', hw]
      refine roundK.intro (i + 1) ⟨by omega, fun j hj => ?_⟩ (by omega) ?_
      · by_cases hji : j = i
        · subst hji; rw [← eq, ea, eb, Int.toNat_natCast, Int.toNat_natCast]; exact hd
        · exact hb j (by omega)
      · simp only [go_sem]
    · have hd' : (m.rules[a]!.dst != m.rules[b]!.src) = true := bne_iff_ne.2 hd
      have e : chainB m.rules c = false := chain_bad hil (by rw [← eq, ea, eb, Int.toNat_natCast, Int.toNat_natCast]; exact hd)
      simp only [go_sem, hd', fcheckS, fcheckE, h0, if_false, e, Bool.false_eq_true]
  · have e : chainB m.rules c = true := chain_good fun j hj => hb j (by omega)
    have hc0 : 0 < c.length := by omega
    have k1 := hc _ (mem_bangI hc0)
    obtain ⟨a, ea, ha⟩ : ∃ k : Nat, c[0]! = k ∧ k < m.rules.length := ⟨c[0]!.toNat, by omega, by omega⟩
    have hg := getv hc0
    have hr1 := getRule ha
    rw [ea] at hg
    simp only [go_sem, cM, vss, hil]
    refine DrawK.walk 10 mixed (by kernel_rfl) ?_
    simp only [go_sem, hc0, hg, ha, hr1, fcheckS, fcheckE, h0, if_false, e, if_true, ea, Int.toNat_natCast]
end Go.AM
