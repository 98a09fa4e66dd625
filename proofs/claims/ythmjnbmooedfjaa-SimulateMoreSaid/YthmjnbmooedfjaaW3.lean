/-
  Walks: searches in lists, and a system's check.
-/
import Derived.Test.YthmjnbmooedfjaaW2
namespace Go.AM
open Go Go.Proofs Go.RowKit

/-- where the first is of which p holds; -1 where none is -/
def findI {α : Type} (p : α → Bool) (l : List α) : Int := match l.findIdx? p with | some i => i | none => -1

theorem findI_stop {α : Type} [Inhabited α] {p : α → Bool} {l : List α} {i : Nat} (h : i < l.length) (hb : ∀ j, j < i → p l[j]! = false) (hp : p l[i]! = true) : findI p l = i := by
  have : l.findIdx? p = some i := by
    rw [List.findIdx?_eq_some_iff_getElem]
    refine ⟨h, by simpa [h] using hp, fun j hj => ?_⟩
    have := hb j hj
    have hjl : j < l.length := by omega
    simpa [hjl] using this
  simp [findI, this]
theorem findI_none {α : Type} [Inhabited α] {p : α → Bool} {l : List α} (hb : ∀ j, j < l.length → p l[j]! = false) : findI p l = -1 := by
  have : l.findIdx? p = none := by
    rw [List.findIdx?_eq_none_iff]
    intro x hx
    obtain ⟨j, hj⟩ := List.getElem?_of_mem hx
    have hjl := (List.getElem?_eq_some_iff.1 hj).1
    have := hb j hjl
    have e : l[j]! = x := by simp [hj]
    rw [e] at this; exact this
  simp [findI, this]
theorem findI_ge {α : Type} (p : α → Bool) (l : List α) : decide (0 ≤ findI p l) = l.any p := by
  unfold findI
  cases h : l.findIdx? p with
  | none =>
    rw [List.findIdx?_eq_none_iff] at h
    have : l.any p = false := by simpa using h
    simp [this]
  | some i =>
    rw [List.findIdx?_eq_some_iff_getElem] at h
    obtain ⟨h1, h2, _⟩ := h
    have : l.any p = true := List.any_eq_true.2 ⟨l[i], List.getElem_mem _, h2⟩
    simp [this]

theorem getva {l : List (Int × Int)} {i : Nat} (h : i < l.length) : (l.map va)[i]? = some (.ag [.sc (.int .i64 l[i]!.1), .sc (.int .i64 l[i]!.2)]) := by simp [va, vi, h]
theorem getvl {s : List (List (Int × Int))} {i : Nat} (h : i < s.length) : (s.map (vl 0))[i]? = some (.sl 0 2 (s[i]!.map va)) := by simp [vl, h]

/-- a function value that tells by p, one call at a time -/
def TellsA (f : FuncId) (caps : List AV) (l : List (Int × Int)) (p : Int × Int → Bool) : Prop := ∀ x ∈ l, Con Try.prog f ([va x] ++ caps) [] fun r _ => r = .sc (.bool (p x))

set_option maxRecDepth 100000 in
theorem con_indexArc (l : List (Int × Int)) (f : FuncId) (caps : List AV) (p : Int × Int → Bool) (hc : mapTops (viewV []) caps = caps) (hf : TellsA f caps l p) (hl : l.length ≤ 9223372036854775806) : Con Try.prog 62 [vl 0 l, .fn f caps] [] fun r _ => r = vi (findI p l) := by
  refine Con.intro Try.func62 rfl Try.ntmps62 Try.results62 (by kernel_rfl) (by simp) 0 (by simp) ?_
  simp only [go_sem]
  refine LoopK.intro (fun i : Nat => ⟨19, [(0, .sl 0 2 (l.map va)), (1, .fn f caps), (7, .sc (.int .i64 l.length)), (8, .sc (.int .i64 i))], []⟩)
    (fun i => l.length - i) (fun i => i ≤ l.length ∧ ∀ j, j < i → p l[j]! = false) 0 ⟨by omega, fun j hj => by omega⟩ ?_ ?_
  · simp only [go_sem]
  · rintro i ⟨hi, hb⟩
    by_cases h : i < l.length
    · have hg := getva h
      have hw : IntKind.i64.wrap (i + 1) = i + 1 := wrap_in (by omega) (by omega)
      simp only [go_sem, h, hg]
      refine CallU.look (hf l[i]! (by simp [h])) (by simp only [go_sem]) (by simp only [go_sem, hc]) ?_
      rintro r bx rfl
      cases hp : p l[i]!
      · simp only [go_sem, hp, hw]
        refine roundK.intro (i + 1) ⟨by omega, fun j hj => ?_⟩ (by omega) ?_
        · by_cases hji : j = i
          · subst hji; exact hp
          · exact hb j (by omega)
        · simp only [go_sem]
      · simp only [go_sem, hp]
        rw [findI_stop h hb hp]
    · simp only [go_sem, h]
      rw [findI_none (fun j hj => hb j (by omega))]

set_option maxRecDepth 100000 in
theorem con_containsArc (l : List (Int × Int)) (f : FuncId) (caps : List AV) (p : Int × Int → Bool) (hc : mapTops (viewV []) caps = caps) (hf : TellsA f caps l p) (hl : l.length ≤ 9223372036854775806) : Con Try.prog 45 [vl 0 l, .fn f caps] [] fun r _ => r = .sc (.bool (l.any p)) := by
  refine Con.intro Try.func45 rfl Try.ntmps45 Try.results45 (by kernel_rfl) (by simp) 0 (by simp) ?_
  simp only [go_sem]
  refine CallU.look (con_indexArc l f caps p hc hf hl) (by simp only [go_sem]) (by simp only [go_sem, hc]) ?_
  rintro r bx rfl
  simp only [go_sem, findI_ge]

/-- an arc that leads out of n states -/
def badArc (n : Nat) (a : Int × Int) : Bool := decide (a.2 < 0) || decide ((n : Int) ≤ a.2)

set_option maxRecDepth 100000 in
theorem con_check1 (a : Int × Int) (n : Nat) : Con Try.prog 46 [va a, .fp [vi n] 0] [] fun r _ => r = .sc (.bool (badArc n a)) := by
  refine Con.intro Try.func46 rfl Try.ntmps46 Try.results46 (by kernel_rfl) (by simp) 0 (by simp) ?_
  by_cases h : a.2 < 0 <;> simp only [go_sem, h, badArc]

/-- the error of a system -/
def checkS (s : List (List (Int × Int))) : Int := if decide (s.length < 1) || decide (128 < s.length) || s.any (fun l => l.any (badArc s.length)) || decide (256 < (s.map List.length).sum) then 46 else 0

theorem sumLen_succ {s : List (List (Int × Int))} {i : Nat} (h : i < s.length) : ((s.take (i + 1)).map List.length).sum = ((s.take i).map List.length).sum + s[i]!.length := by
  have e : s[i]? = some s[i]! := by simp [h]
  rw [List.take_add_one, e]; simp
theorem sumLen_le {s : List (List (Int × Int))} {B : Nat} (hl : ∀ l ∈ s, l.length ≤ B) : (s.map List.length).sum ≤ s.length * B := by
  induction s with
  | nil => simp
  | cons a t ih =>
    have h1 := hl a (by simp)
    have h2 := ih fun l h => hl l (by simp [h])
    simp only [List.map_cons, List.sum_cons, List.length_cons, Nat.add_mul, Nat.one_mul]
    omega
theorem sumLen_take {s : List (List (Int × Int))} {i B : Nat} (hi : i ≤ 128) (hl : ∀ l ∈ s, l.length ≤ B) : ((s.take i).map List.length).sum ≤ 128 * B := by
  have h := sumLen_le (s := s.take i) (B := B) fun l h => hl l (List.mem_of_mem_take h)
  have h2 : (s.take i).length ≤ 128 := by rw [List.length_take]; omega
  exact Nat.le_trans h (Nat.mul_le_mul_right _ h2)

set_option maxRecDepth 100000 in
theorem con_check (s : List (List (Int × Int))) (hl : ∀ l ∈ s, l.length ≤ 281474976710656) (hs : s.length ≤ 9223372036854775806) : Con Try.prog 23 [vy 0 s] [] fun r _ => r = vi (checkS s) := by
  refine Con.intro Try.func23 rfl Try.ntmps23 Try.results23 (by kernel_rfl) (by simp) 0 (by simp) ?_
  by_cases h1 : (s.length : Int) < 1
  · have h1' : s.length < 1 := by omega
    have e : checkS s = 46 := by simp only [checkS, h1', decide_true, Bool.true_or, if_true]
    simp only [go_sem, h1, e]
  by_cases h2 : (128 : Int) < s.length
  · have e : checkS s = 46 := by simp [checkS, show 128 < s.length by omega]
    simp only [go_sem, h1, h2, e]
  simp only [go_sem, h1, h2]
  have hs1 : 1 ≤ s.length := by omega
  have hs2 : s.length ≤ 128 := by omega
  have d1 : decide (s.length < 1) = false := decide_eq_false (by omega)
  have d2 : decide (128 < s.length) = false := decide_eq_false (by omega)
  refine LoopK.intro (fun i : Nat => ⟨33, [(1, .pb 0 0), (2, .sc (.int .i64 0)), (3, .pb 1 0), (4, .sc (.int .i64 ((s.take i).map List.length).sum)), (17, .sl 0 1 (s.map (vl 0))), (18, .sc (.int .i64 s.length)), (19, .sc (.int .i64 i))], [[.sl 0 1 (s.map (vl 0))], [.sc (.int .i64 s.length)]]⟩)
    (fun i => s.length - i) (fun i => i ≤ s.length ∧ ∀ j, j < i → s[j]!.any (badArc s.length) = false) 0 ⟨by omega, fun j hj => by omega⟩ ?_ ?_
  · simp only [go_sem, List.take_zero, List.map_nil, List.sum_nil]
  rintro i ⟨hi, hb⟩
  by_cases h : i < s.length
  · have hg := getvl h
    have hw : IntKind.i64.wrap (i + 1) = i + 1 := wrap_in (by omega) (by omega)
    have hm : s[i]! ∈ s := by simp [h]
    have hq := sumLen_take (i := i + 1) (by omega) hl
    have hq2 := sumLen_succ h
    have hw2 : IntKind.i64.wrap (((s.take i).map List.length).sum + s[i]!.length) = ((s.take (i + 1)).map List.length).sum := by
      rw [wrap_in (by omega) (by omega)]; omega
    simp only [go_sem, h, hg, hw2]
    refine CallU.look (con_containsArc s[i]! 46 [.fp [vi s.length] 0] (badArc s.length) (by simp only [go_sem]) (fun x _ => con_check1 x s.length) (by have := hl _ hm; omega)) (by simp only [go_sem]) (by simp only [go_sem]) ?_
    rintro r bx rfl
    cases hp : s[i]!.any (badArc s.length)
    · simp only [go_sem, hp, hw]
      refine roundK.intro (i + 1) ⟨by omega, fun j hj => ?_⟩ (by omega) ?_
      · by_cases hji : j = i
        · subst hji; exact hp
        · exact hb j (by omega)
      · simp only [go_sem]
    · have e : checkS s = 46 := by
        have : s.any (fun l => l.any (badArc s.length)) = true := List.any_eq_true.2 ⟨_, hm, hp⟩
        simp only [checkS, this, Bool.or_true, Bool.true_or, if_true]
      simp only [go_sem, hp, e]
  · have hi2 : i = s.length := by omega
    subst hi2
    have hany : s.any (fun l => l.any (badArc s.length)) = false := by
      rw [List.any_eq_false]
      intro x hx
      obtain ⟨j, hj⟩ := List.getElem?_of_mem hx
      have hjl := (List.getElem?_eq_some_iff.1 hj).1
      have := hb j hjl
      have e : s[j]! = x := by simp [hj]
      rw [e] at this; simp [this]
    by_cases h3 : 256 < (s.map List.length).sum
    · have e : checkS s = 46 := by simp [checkS, h3]
      simp only [go_sem, h, List.take_length, h3, e]
    · have e : checkS s = 0 := by
        simp only [checkS, d1, d2, hany, h3, decide_false, Bool.or_self, if_false, Bool.false_eq_true]
      simp only [go_sem, h, List.take_length, h3, e]
end Go.AM
