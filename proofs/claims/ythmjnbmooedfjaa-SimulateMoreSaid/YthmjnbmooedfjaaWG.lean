/-
  Walks: after, at states behind which the list is in order.
-/
import Derived.Test.YthmjnbmooedfjaaWE
namespace Go.AM
open Go Go.Proofs Go.RowKit

/-- the variables of some arcs -/
def Bx (L : List (Int × Int)) : List (List AV) := L.map fun p => [vi p.1, vi p.2]
theorem Bx_len (L : List (Int × Int)) : (Bx L).length = L.length := by simp [Bx]
@[go_sem] theorem freeB_Bx {d : Nat} {L : List (Int × Int)} : freeB d (Bx L) = true := Ax_free L
@[go_sem] theorem leB_Bx {L : List (Int × Int)} : leB (Bx L) (Bx L) = True := eq_true (leB_refl _)
@[go_sem] theorem mapB_kill_Bx {t : Nat} {L : List (Int × Int)} : mapB (killLeaf t) (Bx L) = Bx L := Ax_map (fun _ => rfl) L
@[go_sem] theorem mapB_freeze_Bx {p : Nat → Bool} {L : List (Int × Int)} : mapB (freezeLeaf p) (Bx L) = Bx L := Ax_map (fun _ => rfl) L
@[go_sem] theorem mapB_give_Bx {ts : List Nat} {g : List Give} {L : List (Int × Int)} : mapB (giveLeaf ts g) (Bx L) = Bx L := Ax_map (fun _ => rfl) L
theorem Bx_new {L : List (Int × Int)} {n : Nat} (h : n = L.length) {x : List AV} : (Bx L ++ [x])[n]? = some x := by
  subst h
  rw [List.getElem?_append_right (by simp [Bx]), Bx_len, Nat.sub_self]; rfl
theorem Bx_snoc {L : List (Int × Int)} {n : Nat} (h : n = L.length) {x : List AV} {p : Int × Int} : (Bx L ++ [x]).set n [.sc (.int .i64 p.1), .sc (.int .i64 p.2)] = Bx (L ++ [p]) := by
  subst h
  rw [List.set_append_right _ _ (by simp [Bx]), Bx_len, Nat.sub_self]
  simp [Bx, vi]
theorem Bx_last {L : List (Int × Int)} {n : Nat} (h : n = L.length) {p : Int × Int} : (Bx (L ++ [p]))[n]? = some [.sc (.int .i64 p.1), .sc (.int .i64 p.2)] := by
  subst h
  simp [Bx, vi]

/-- where the arcs with a label lead -/
def outOf (lab : Int) (L : List (Int × Int)) : List Int := (L.filter fun p => p.1 == lab).map (·.2)
/-- the arcs of the first k states, and the first j of the next one -/
def visA (x : Sys) (s : List Int) (k : Nat) : List (Int × Int) := (s.take k).flatMap fun i => x[i.toNat]!
theorem visA_succ {x : Sys} {s : List Int} {k : Nat} (h : k < s.length) : visA x s (k + 1) = visA x s k ++ x[s[k]!.toNat]! := by
  unfold visA
  rw [List.take_add_one, List.flatMap_append, List.getElem?_eq_getElem h, ← getElem!_pos s k h]
  simp
theorem visA_le {x : Sys} {s : List Int} {B : Nat} (hx : ∀ l ∈ x, l.length ≤ B) : ∀ k, (visA x s k).length ≤ k * B
  | 0 => by simp [visA]
  | k + 1 => by
    by_cases h : k < s.length
    · rw [visA_succ h, List.length_append, Nat.succ_mul]
      have h1 := visA_le hx k (s := s)
      have h2 : x[s[k]!.toNat]!.length ≤ B := by
        by_cases h3 : s[k]!.toNat < x.length
        · exact hx _ (mem_bang h3)
        · rw [getElem!_neg x _ h3]; exact Nat.zero_le _
      omega
    · have e : visA x s (k + 1) = visA x s k := by unfold visA; rw [List.take_of_length_le (by omega), List.take_of_length_le (by omega)]
      rw [e, Nat.succ_mul]; have := visA_le hx k (s := s); omega
theorem outOf_le (lab : Int) (L : List (Int × Int)) : (outOf lab L).length ≤ L.length := by
  unfold outOf; rw [List.length_map]; exact List.length_filter_le _ _
theorem outOf_snoc (lab : Int) (L : List (Int × Int)) (p : Int × Int) : outOf lab (L ++ [p]) = outOf lab L ++ (if p.1 == lab then [p.2] else []) := by
  unfold outOf
  rw [List.filter_append, List.map_append]
  cases h : p.1 == lab <;> simp [h]
theorem take_snoc {α : Type} [Inhabited α] {l : List α} {j : Nat} (h : j < l.length) : l.take (j + 1) = l.take j ++ [l[j]!] := by
  rw [List.take_add_one, List.getElem?_eq_getElem h, ← getElem!_pos l j h]; rfl

set_option maxRecDepth 100000 in
theorem con_after1 (s : List Int) (x : Sys) (lab : Int) (hs : ∀ i ∈ s, 0 ≤ i ∧ i < x.length) (hsl : s.length ≤ 128) (hx : ∀ l ∈ x, l.length ≤ 1000000)
    (out : List Int) (hout : out = outOf lab (visA x s s.length)) (ho : out.length ≤ 3) (ha : Asc out) (ha1 : Apart1 out) :
    Con Try.prog 35 [vs 0 s, vy 0 x, vi lab] [] fun r _ => r = vs 0 out := by
  refine Con.intro Try.func35 rfl Try.ntmps35 Try.results35 (by kernel_rfl) (by simp) 0 (by simp) ?_
  simp only [go_sem]
  refine LoopK.intro (fun k : Nat => ⟨43, [(2, vi lab), (4, .pb 0 0), (7, .sl 2368 1 ((outOf lab (visA x s k)).map vi)), (12, .sl 0 1 (s.map vi)), (13, vi s.length), (14, vi k)], [.sl 0 1 (x.map (vl 0))] :: Bx (visA x s k)⟩)
    (fun k => s.length - k) (fun k => k ≤ s.length) 0 (by omega) ?_ ?_
  · simp only [go_sem, visA, List.take_zero, List.flatMap_nil]
    exact ⟨leV_nil _ _, leB_refl _⟩
  intro k hk
  by_cases h : k < s.length
  · have g1 := getv h
    obtain ⟨i, hi⟩ := Int.eq_ofNat_of_zero_le (hs _ (mem_bang h)).1
    have hi2 : i < x.length := by have := (hs _ (mem_bang h)).2; omega
    have hxl := hx _ (mem_bang hi2)
    have g2 := getvl hi2
    have hV : visA x s (k + 1) = visA x s k ++ x[i]! := by rw [visA_succ h, hi]; rfl
    have hw : IntKind.i64.wrap (k + 1) = k + 1 := wrap_in (by omega) (by omega)
    simp only [go_sem, h, g1, g2, hi, hi2]
    refine LoopK.intro (fun j : Nat => ⟨43, [(2, vi lab), (4, .pb 0 0), (7, .sl 2368 1 ((outOf lab (visA x s k ++ x[i]!.take j)).map vi)), (12, .sl 0 1 (s.map vi)), (13, vi s.length), (14, vi k), (22, .sl 0 2 (x[i]!.map va)), (23, vi x[i]!.length), (24, vi j)], [.sl 0 1 (x.map (vl 0))] :: Bx (visA x s k ++ x[i]!.take j)⟩)
      (fun j => x[i]!.length - j) (fun j => j ≤ x[i]!.length) 0 (by omega) ?_ ?_
    · simp only [go_sem, List.take_zero, List.append_nil]
    intro j hj
    by_cases hjl : j < x[i]!.length
    · have g3 := getva hjl
      have hwj : IntKind.i64.wrap (j + 1) = j + 1 := wrap_in (by omega) (by omega)
      have hBl := Bx_len (visA x s k ++ x[i]!.take j)
      have hBn := fun z => Bx_new (L := visA x s k ++ x[i]!.take j) rfl (x := z)
      have hBs := fun z => Bx_snoc (L := visA x s k ++ x[i]!.take j) rfl (x := z) (p := x[i]![j]!)
      have hBx := Bx_last (L := visA x s k ++ x[i]!.take j) rfl (p := x[i]![j]!)
      have hT : visA x s k ++ x[i]!.take (j + 1) = visA x s k ++ x[i]!.take j ++ [x[i]![j]!] := by rw [take_snoc hjl, List.append_assoc]
      by_cases hl : x[i]![j]!.1 = lab
      · have hl' : (x[i]![j]!.1 == lab) = true := by simpa using hl
        simp only [go_sem, hjl, g3, hBl, hBn, hBs, hBx, hl', hwj]
        have b1 := outOf_le lab (visA x s k ++ x[i]!.take j)
        have b2 := visA_le hx k (s := s)
        have b3 : k * 1000000 ≤ 128 * 1000000 := Nat.mul_le_mul_right _ (by omega)
        rw [List.length_append, List.length_take] at b1
        refine ⟨by simp only [roomFor]; omega, roundK.intro (j + 1) (by show j + 1 ≤ x[i]!.length; omega) (by show x[i]!.length - (j + 1) < x[i]!.length - j; omega) ?_⟩
        simp only [go_sem, hT, outOf_snoc, hl', List.map_append, List.map_cons, List.map_nil]
      · have hl' : (x[i]![j]!.1 == lab) = false := by simpa using hl
        simp only [go_sem, hjl, g3, hBl, hBn, hBs, hBx, hl', hwj]
        refine roundK.intro (j + 1) (by show j + 1 ≤ x[i]!.length; omega) (by show x[i]!.length - (j + 1) < x[i]!.length - j; omega) ?_
        simp only [go_sem, hT, outOf_snoc, hl', Bool.false_eq_true, if_false, List.append_nil]
    · have hje : j = x[i]!.length := by omega
      subst hje
      simp only [go_sem, hjl, List.take_length, hw]
      refine roundK.intro (k + 1) (by show k + 1 ≤ s.length; omega) (by show s.length - (k + 1) < s.length - k; omega) ?_
      simp only [go_sem, hV]
  · have hke : k = s.length := by omega
    subst hke
    simp only [go_sem, h, ← hout]
    refine CallU.flat (con_sort54 out ho ha) (by simp only [go_sem]) (by simp only [go_sem]) ?_
    rintro r bx rfl
    simp only [go_sem]
    refine CallU.freeze (con_compactS out (by omega) ha1) (by simp only [go_sem]) (by simp only [go_sem]) ?_
    rintro r bx rfl
    simp only [go_sem]
set_option maxRecDepth 100000 in
theorem con_labels1 (s : List Int) (x : Sys) (hs : ∀ i ∈ s, 0 ≤ i ∧ i < x.length) (hsl : s.length ≤ 128) (hx : ∀ l ∈ x, l.length ≤ 1000000)
    (out : List Int) (hout : out = (visA x s s.length).map (·.1)) (ho : out.length ≤ 3) (ha : Asc out) (ha1 : Apart1 out) :
    Con Try.prog 33 [vs 0 s, vy 0 x] [] fun r _ => r = vs 0 out := by
  refine Con.intro Try.func33 rfl Try.ntmps33 Try.results33 (by kernel_rfl) (by simp) 0 (by simp) ?_
  simp only [go_sem]
  refine LoopK.intro (fun k : Nat => ⟨37, [(3, .pb 0 0), (5, .sl 1984 1 (((visA x s k).map (·.1)).map vi)), (10, .sl 0 1 (s.map vi)), (11, vi s.length), (12, vi k)], [.sl 0 1 (x.map (vl 0))] :: Bx (visA x s k)⟩)
    (fun k => s.length - k) (fun k => k ≤ s.length) 0 (by omega) ?_ ?_
  · simp only [go_sem, visA, List.take_zero, List.flatMap_nil, List.map_nil]
    first | trivial | exact leB_refl _
  intro k hk
  by_cases h : k < s.length
  · have g1 := getv h
    obtain ⟨i, hi⟩ := Int.eq_ofNat_of_zero_le (hs _ (mem_bang h)).1
    have hi2 : i < x.length := by have := (hs _ (mem_bang h)).2; omega
    have hxl := hx _ (mem_bang hi2)
    have g2 := getvl hi2
    have hV : visA x s (k + 1) = visA x s k ++ x[i]! := by rw [visA_succ h, hi]; rfl
    have hw : IntKind.i64.wrap (k + 1) = k + 1 := wrap_in (by omega) (by omega)
    simp only [go_sem, h, g1, g2, hi, hi2]
    refine LoopK.intro (fun j : Nat => ⟨37, [(3, .pb 0 0), (5, .sl 1984 1 (((visA x s k ++ x[i]!.take j).map (·.1)).map vi)), (10, .sl 0 1 (s.map vi)), (11, vi s.length), (12, vi k), (20, .sl 0 2 (x[i]!.map va)), (21, vi x[i]!.length), (22, vi j)], [.sl 0 1 (x.map (vl 0))] :: Bx (visA x s k ++ x[i]!.take j)⟩)
      (fun j => x[i]!.length - j) (fun j => j ≤ x[i]!.length) 0 (by omega) ?_ ?_
    · simp only [go_sem, List.take_zero, List.append_nil]
    intro j hj
    by_cases hjl : j < x[i]!.length
    · have g3 := getva hjl
      have hwj : IntKind.i64.wrap (j + 1) = j + 1 := wrap_in (by omega) (by omega)
      have hBl := Bx_len (visA x s k ++ x[i]!.take j)
      have hBn := fun z => Bx_new (L := visA x s k ++ x[i]!.take j) rfl (x := z)
      have hBs := fun z => Bx_snoc (L := visA x s k ++ x[i]!.take j) rfl (x := z) (p := x[i]![j]!)
      have hBx := Bx_last (L := visA x s k ++ x[i]!.take j) rfl (p := x[i]![j]!)
      have hT : visA x s k ++ x[i]!.take (j + 1) = visA x s k ++ x[i]!.take j ++ [x[i]![j]!] := by rw [take_snoc hjl, List.append_assoc]
      simp only [go_sem, hjl, g3, hBl, hBn, hBs, hBx, hwj]
      have b1 : (visA x s k ++ x[i]!.take j).length = (visA x s k ++ x[i]!.take j).length := rfl
      have b2 := visA_le hx k (s := s)
      have b3 : k * 1000000 ≤ 128 * 1000000 := Nat.mul_le_mul_right _ (by omega)
      conv at b1 => rhs; rw [List.length_append, List.length_take]
      refine ⟨by simp only [roomFor, List.length_map]; omega, roundK.intro (j + 1) (by show j + 1 ≤ x[i]!.length; omega) (by show x[i]!.length - (j + 1) < x[i]!.length - j; omega) ?_⟩
      simp only [go_sem, hT, List.map_append, List.map_cons, List.map_nil]
    · have hje : j = x[i]!.length := by omega
      subst hje
      simp only [go_sem, hjl, List.take_length, hw]
      refine roundK.intro (k + 1) (by show k + 1 ≤ s.length; omega) (by show s.length - (k + 1) < s.length - k; omega) ?_
      simp only [go_sem, hV]
  · have hke : k = s.length := by omega
    subst hke
    simp only [go_sem, h, ← hout]
    refine CallU.flat (con_sort52 out ho ha) (by simp only [go_sem]) (by simp only [go_sem]) ?_
    rintro r bx rfl
    simp only [go_sem]
    refine CallU.freeze (con_compact out (by omega) ha1) (by simp only [go_sem]) (by simp only [go_sem]) ?_
    rintro r bx rfl
    simp only [go_sem]
end Go.AM
