/-
  Walks: Holds.
-/
import Derived.Test.YthmjnbmooedfjaaW9
namespace Go.AM
open Go Go.Proofs Go.RowKit

/-- a function value that tells by p, one call at a time -/
def TellsB (f : FuncId) (caps : List AV) (l : Rel) (p : List Bool → Bool) : Prop := ∀ x ∈ l, Con Try.prog f ([vbl 0 x] ++ caps) [] fun r _ => r = .sc (.bool (p x))

set_option maxRecDepth 100000 in
theorem con_indexRow (l : Rel) (f : FuncId) (caps : List AV) (p : List Bool → Bool) (hc : mapTops (viewV []) caps = caps) (hf : TellsB f caps l p) (hl : l.length ≤ 9223372036854775806) : Con Try.prog 57 [vr 0 l, .fn f caps] [] fun r _ => r = vi (findI p l) := by
  refine Con.intro Try.func57 rfl Try.ntmps57 Try.results57 (by kernel_rfl) (by simp) 0 (by simp) ?_
  simp only [go_sem]
  refine LoopK.intro (fun i : Nat => ⟨19, [(0, .sl 0 1 (l.map (vbl 0))), (1, .fn f caps), (7, .sc (.int .i64 l.length)), (8, .sc (.int .i64 i))], []⟩)
    (fun i => l.length - i) (fun i => i ≤ l.length ∧ ∀ j, j < i → p l[j]! = false) 0 ⟨by omega, fun j hj => by omega⟩ ?_ ?_
  · simp only [go_sem]
  · rintro i ⟨hi, hb⟩
    by_cases h : i < l.length
    · have hg := getvr h
      have hw : IntKind.i64.wrap (i + 1) = i + 1 := wrap_in (by omega) (by omega)
      simp only [go_sem, h, hg]
      refine CallU.look (hf l[i]! (by simp [h])) (by simp only [go_sem]) (by simp only [go_sem, hc]) ?_
      rintro r bx rfl
      cases hp : p l[i]!
      · simp only [go_sem, hp, hw]
        refine roundK.intro (i + 1) ⟨by omega, fun j hj => ?_⟩ (by omega) ?_
        · by_cases hji : j = i
          · subst hji; exact hp
          · exact hb j (by omega)
        · simp only [go_sem]
      · simp only [go_sem, hp]
        rw [findI_stop h hb hp]
    · simp only [go_sem, h]
      rw [findI_none (fun j hj => hb j (by omega))]

set_option maxRecDepth 100000 in
theorem con_containsRow (l : Rel) (f : FuncId) (caps : List AV) (p : List Bool → Bool) (hc : mapTops (viewV []) caps = caps) (hf : TellsB f caps l p) (hl : l.length ≤ 9223372036854775806) : Con Try.prog 38 [vr 0 l, .fn f caps] [] fun r _ => r = .sc (.bool (l.any p)) := by
  refine Con.intro Try.func38 rfl Try.ntmps38 Try.results38 (by kernel_rfl) (by simp) 0 (by simp) ?_
  simp only [go_sem]
  refine CallU.look (con_indexRow l f caps p hc hf hl) (by simp only [go_sem]) (by simp only [go_sem, hc]) ?_
  rintro r bx rfl
  simp only [go_sem, findI_ge]

/-- a row of another length -/
def badRow (m : Nat) (row : List Bool) : Bool := decide ¬row.length = m

set_option maxRecDepth 100000 in
theorem con_holds1 (row : List Bool) (b : Sys) : Con Try.prog 39 [vbl 0 row, .fp [.sl 0 1 (b.map (vl 0))] 0] [] fun r _ => r = .sc (.bool (badRow b.length row)) := by
  refine Con.intro Try.func39 rfl Try.ntmps39 Try.results39 (by kernel_rfl) (by simp) 0 (by simp) ?_
  simp only [go_sem]
  rfl

/-- a pair that does not match -/
def openS (a b : Sys) (r : Rel) : Prop := ∃ x y, x < a.length ∧ y < b.length ∧ rel r x y = true ∧ matchesF r a b x y = false

/-- what Holds returns, of valid systems and a relation of their states -/
def HoldsV (a b : Sys) (r : Rel) (e : Int) : Prop := (openS a b r ∧ e = 41) ∨ (¬ openS a b r ∧ e = if rel r 0 0 = true then 0 else 42)

set_option maxRecDepth 100000 in
theorem con_holds (a b : Sys) (r : Rel) (hab : bothS a b = 0) (ha : ∀ l ∈ a, l.length ≤ 281474976710656) (hb : ∀ l ∈ b, l.length ≤ 281474976710656) (hr : Sized r a.length b.length) :
    Con Try.prog 17 [vy 0 a, vy 0 b, vr 0 r] [] fun u _ => ∃ e, u = vi e ∧ HoldsV a b r e := by
  have hca : checkS a = 0 := by unfold bothS at hab; split at hab <;> assumption
  have hcb : checkS b = 0 := by unfold bothS at hab; rw [if_pos hca] at hab; exact hab
  obtain ⟨a1, a2, a3⟩ := checkS_ok hca
  obtain ⟨b1, b2, b3⟩ := checkS_ok hcb
  have ca : Closed1 a := ⟨a2, fun l hl => ⟨ha l hl, a3 l hl⟩⟩
  have cb : Closed1 b := ⟨b2, fun l hl => ⟨hb l hl, b3 l hl⟩⟩
  have hrl : r.length = a.length := hr.1
  refine Con.intro Try.func17 rfl Try.ntmps17 Try.results17 (by kernel_rfl) (by simp) 0 (by simp) ?_
  simp only [go_sem]
  refine CallU.free (con_both a b ha (by omega) hb (by omega)) (by simp only [go_sem]) (by simp only [go_sem]) ?_
  rintro u bx rfl
  have hnb : r.any (badRow b.length) = false := by
    rw [List.any_eq_false]
    intro row hm
    have := hr.2 row hm
    simp [badRow, this]
  simp only [go_sem, hab, hrl]
  refine CallU.look (con_containsRow r 39 [.fp [.sl 0 1 (b.map (vl 0))] 0] (badRow b.length) (by simp only [go_sem]) (fun q hq => con_holds1 q b) (by omega)) (by simp only [go_sem]) (by simp only [go_sem]) ?_
  rintro u bx rfl
  simp only [go_sem, hnb, hrl]
  refine LoopK.intro (fun x : Nat => ⟨61, [(2, vr 0 r), (3, .pb 0 0), (4, .pb 1 0), (29, vr 0 r), (30, vi a.length), (31, vi x)], [[.sl 0 1 (a.map (vl 0))], [.sl 0 1 (b.map (vl 0))]]⟩)
    (fun x => a.length - x) (fun x => x ≤ a.length ∧ ∀ i j, i < x → j < b.length → rel r i j = true → matchesF r a b i j = true) 0 ⟨by omega, fun i j hi => by omega⟩ ?_ ?_
  · simp only [go_sem]
  rintro x ⟨hx, hdone⟩
  by_cases h : x < a.length
  · have hxr : x < r.length := by omega
    have g1 := getvr hxr
    have hrow : r[x]!.length = b.length := hr.2 _ (mem_bang hxr)
    have hw : IntKind.i64.wrap (x + 1) = x + 1 := wrap_in (by omega) (by omega)
    simp only [go_sem, h, g1, hxr, hrow]
    refine LoopK.intro (fun y : Nat => ⟨61, [(2, vr 0 r), (3, .pb 0 0), (4, .pb 1 0), (8, vi x), (29, vr 0 r), (30, vi a.length), (31, vi x), (36, vbl 0 r[x]!), (37, vi b.length), (38, vi y)], [[.sl 0 1 (a.map (vl 0))], [.sl 0 1 (b.map (vl 0))]]⟩)
      (fun y => b.length - y) (fun y => y ≤ b.length ∧ ∀ j, j < y → rel r x j = true → matchesF r a b x j = true) 0 ⟨by omega, fun j hj => by omega⟩ ?_ ?_
    · simp only [go_sem]
    rintro y ⟨hy, hin⟩
    by_cases hy2 : y < b.length
    · have hyr : y < r[x]!.length := by omega
      have g2 := getvb hyr
      have hwy : IntKind.i64.wrap (y + 1) = y + 1 := wrap_in (by omega) (by omega)
      cases hb2 : r[x]![y]!
      · simp only [go_sem, hy2, g2, hyr, hb2, hwy]
        refine roundK.intro (y + 1) ⟨by omega, fun j hj hrel => ?_⟩ (by omega) ?_
        · by_cases hjy : j = y
          · subst hjy; rw [rel, hb2] at hrel; cases hrel
          · exact hin j (by omega) hrel
        · simp only [go_sem]
      · simp only [go_sem, hy2, g2, hyr, hb2]
        refine CallU.flat (con_matches r a b x y hr ca cb h hy2) (by simp only [go_sem]) (by simp only [go_sem]) ?_
        rintro u bx rfl
        cases hm : matchesF r a b x y
        · simp only [go_sem, hm]
          exact ⟨41, rfl, .inl ⟨⟨x, y, h, hy2, hb2, hm⟩, rfl⟩⟩
        · simp only [go_sem, hm, hwy]
          refine roundK.intro (y + 1) ⟨by omega, fun j hj hrel => ?_⟩ (by omega) ?_
          · by_cases hjy : j = y
            · subst hjy; exact hm
            · exact hin j (by omega) hrel
          · simp only [go_sem]
    · have hye : y = b.length := by omega
      subst hye
      simp only [go_sem, hy2, hw]
      refine roundK.intro (x + 1) ⟨by omega, fun i j hi hj hrel => ?_⟩ (by omega) ?_
      · by_cases hix : i = x
        · subst hix; exact hin j hj hrel
        · exact hdone i j (by omega) hj hrel
      · simp only [go_sem]
  · have hxe : x = a.length := by omega
    subst hxe
    have hnot : ¬ openS a b r := fun ⟨i, j, hi, hj, h1, h2⟩ => by rw [hdone i j hi hj h1] at h2; cases h2
    have h0 : 0 < r.length := by omega
    have h00 : 0 < r[0]!.length := by rw [hr.2 _ (mem_bang h0)]; omega
    have g1 := getvr h0
    have g2 := getvb h00
    cases hb2 : r[0]![0]!
    · simp only [go_sem, h, h0, h00, g1, g2, hb2]
      exact ⟨42, rfl, .inr ⟨hnot, by rw [rel, hb2]; rfl⟩⟩
    · simp only [go_sem, h, h0, h00, g1, g2, hb2]
      exact ⟨0, rfl, .inr ⟨hnot, by rw [rel, hb2]; rfl⟩⟩
end Go.AM
