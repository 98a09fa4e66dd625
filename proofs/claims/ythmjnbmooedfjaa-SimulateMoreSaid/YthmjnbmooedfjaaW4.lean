/-
  Walks: matches.
-/
import Derived.Test.YthmjnbmooedfjaaW3
namespace Go.AM
open Go Go.Proofs Go.RowKit

theorem mem_bang {α : Type} [Inhabited α] {l : List α} {i : Nat} (h : i < l.length) : l[i]! ∈ l := by rw [getElem!_pos l i h]; exact List.getElem_mem _
theorem bang_of {α : Type} [Inhabited α] {l : List α} {i : Nat} {x : α} (h : l[i]? = some x) : l[i]! = x := by rw [getElem!_def, h]

abbrev Sys := List (List (Int × Int))
abbrev Rel := List (List Bool)
def vb (b : Bool) : AV := .sc (.bool b)
def vbl (t : Nat) (row : List Bool) : AV := .sl t 1 (row.map vb)
def vr (t : Nat) (r : Rel) : AV := .sl t 1 (r.map (vbl 0))
attribute [go_sem] vb vbl vr
theorem getvb {l : List Bool} {i : Nat} (h : i < l.length) : (l.map vb)[i]? = some (.sc (.bool l[i]!)) := by simp [vb, h]
theorem getvr {r : Rel} {i : Nat} (h : i < r.length) : (r.map (vbl 0))[i]? = some (.sl 0 1 (r[i]!.map vb)) := by simp [vbl, h]

/-- the first error of two systems -/
def bothS (a b : Sys) : Int := if checkS a = 0 then checkS b else checkS a

set_option maxRecDepth 100000 in
theorem con_both (a b : Sys) (ha : ∀ l ∈ a, l.length ≤ 281474976710656) (ha2 : a.length ≤ 9223372036854775806) (hb : ∀ l ∈ b, l.length ≤ 281474976710656) (hb2 : b.length ≤ 9223372036854775806) : Con Try.prog 31 [vy 0 a, vy 0 b] [] fun r _ => r = vi (bothS a b) := by
  refine Con.intro Try.func31 rfl Try.ntmps31 Try.results31 (by kernel_rfl) (by simp) 0 (by simp) ?_
  simp only [go_sem]
  refine CallU.free (con_check a ha ha2) (by simp only [go_sem]) (by simp only [go_sem]) ?_
  rintro r bx rfl
  by_cases h : checkS a = 0
  · simp only [go_sem, h]
    refine CallU.free (con_check b hb hb2) (by simp only [go_sem]) (by simp only [go_sem]) ?_
    rintro r bx rfl
    simp only [go_sem, bothS, h, if_true]
  · have h' : (checkS a != 0) = true := by simpa using h
    simp only [go_sem, h']
    simp only [bothS, h, if_false]

/-- an arc's end lies within the relation -/
def within (r : Rel) (p q : Int × Int) : Bool := r[p.2.toNat]![q.2.toNat]!

set_option maxRecDepth 100000 in
theorem con_match1 (r : Rel) (p q : Int × Int) (hp : 0 ≤ p.2) (hp2 : p.2.toNat < r.length) (hq : 0 ≤ q.2) (hq2 : q.2.toNat < r[p.2.toNat]!.length) : Con Try.prog 58 [va q, .fp [vi p.1, vi p.2] 0, .fp [vr 0 r] 0] [] fun x _ => x = .sc (.bool (q.1 == p.1 && within r p q)) := by
  refine Con.intro Try.func58 rfl Try.ntmps58 Try.results58 (by kernel_rfl) (by simp) 0 (by simp) ?_
  simp only [go_sem]
  refine DrawK.walk 16 mixed (by kernel_rfl) ?_
  obtain ⟨i, hi⟩ := Int.eq_ofNat_of_zero_le hp
  obtain ⟨k, hk⟩ := Int.eq_ofNat_of_zero_le hq
  have e1 : p.2.toNat = i := by omega
  have e2 : q.2.toNat = k := by omega
  rw [e1] at hp2 hq2
  rw [e2] at hq2
  have g1 := getvr hp2
  have g2 := getvb hq2
  have e3 : within r p q = r[i]![k]! := by unfold within; rw [e1, e2]
  by_cases h : q.1 = p.1
  · have h' : (q.1 == p.1) = true := by simpa using h
    simp only [go_sem, h, hi, hk, g1, g2, hp2, hq2, e3]
  · have h' : (q.1 == p.1) = false := by simpa using h
    simp only [go_sem, h']

/-- the variables of the first i rounds -/
def Ax (l : List (Int × Int)) (i : Nat) : List (List AV) := (l.take i).map fun p => [vi p.1, vi p.2]
theorem Ax_len {l : List (Int × Int)} {i : Nat} (h : i ≤ l.length) : (Ax l i).length = i := by simp [Ax]; omega
theorem Ax_free {d : Nat} : ∀ (L : List (Int × Int)), freeB d (L.map fun p => [vi p.1, vi p.2]) = true
  | [] => rfl
  | p :: L => by
    have := Ax_free (d := d) L
    simp only [List.map_cons, freeB, this, Bool.and_true]
    simp [allLeafs, AV.allLeaf, freeLeaf, vi]
@[go_sem] theorem freeB_Ax {d i : Nat} {l : List (Int × Int)} : freeB d (Ax l i) = true := Ax_free _
theorem Ax_map {f : AV → AV} (hf : ∀ x, f (vi x) = vi x) : ∀ (L : List (Int × Int)), mapB f (L.map fun p => [vi p.1, vi p.2]) = L.map fun p => [vi p.1, vi p.2]
  | [] => rfl
  | p :: L => by
    have h1 := hf p.1
    have h2 := hf p.2
    simp only [vi] at h1 h2
    simp only [List.map_cons, mapB, mapTops, AV.mapTop, vi, h1, h2]
    have := Ax_map hf L
    simp only [vi] at this
    rw [this]
theorem leC_refl : ∀ l : List AV, leC l l
  | [] => trivial
  | _ :: l => ⟨leV_refl _, leC_refl l⟩
theorem leB_refl : ∀ l : List (List AV), leB l l
  | [] => trivial
  | x :: l => ⟨leC_refl x, leB_refl l⟩
@[go_sem] theorem leB_Ax {i : Nat} {l : List (Int × Int)} : leB (Ax l i) (Ax l i) = True := eq_true (leB_refl _)
theorem Ax_snoc {l : List (Int × Int)} {i : Nat} (h : i < l.length) {x : List AV} : (Ax l i ++ [x]).set i [.sc (.int .i64 l[i]!.1), .sc (.int .i64 l[i]!.2)] = Ax l (i + 1) := by
  have hl := Ax_len (l := l) (i := i) (by omega)
  have e : (Ax l i ++ [x]).set i [.sc (.int .i64 l[i]!.1), .sc (.int .i64 l[i]!.2)] = Ax l i ++ [[.sc (.int .i64 l[i]!.1), .sc (.int .i64 l[i]!.2)]] := by
    rw [List.set_append_right _ _ (by omega), hl, Nat.sub_self]; rfl
  rw [e]
  unfold Ax
  rw [List.take_add_one, List.map_append, List.getElem?_eq_getElem h, ← getElem!_pos l i h]; rfl
theorem Ax_new {l : List (Int × Int)} {i : Nat} (h : i ≤ l.length) {x : List AV} : (Ax l i ++ [x])[i]? = some x := by
  have hl := Ax_len h
  rw [List.getElem?_append_right (by omega), hl, Nat.sub_self]; rfl
theorem Ax_last {l : List (Int × Int)} {i : Nat} (h : i < l.length) : (Ax l (i + 1))[i]? = some [.sc (.int .i64 l[i]!.1), .sc (.int .i64 l[i]!.2)] := by
  unfold Ax
  rw [List.getElem?_map, List.getElem?_take, if_pos (by omega), List.getElem?_eq_getElem h, ← getElem!_pos l i h]; rfl

/-- each arc of x has one of y with the same label, and leads within the relation -/
def matchesF (r : Rel) (a b : Sys) (x y : Nat) : Bool := a[x]!.all fun p => b[y]!.any fun q => q.1 == p.1 && within r p q

/-- a relation of n and m states -/
def Sized (r : Rel) (n m : Nat) : Prop := r.length = n ∧ ∀ row ∈ r, row.length = m
/-- every arc leads to a state -/
def Closed1 (s : Sys) : Prop := s.length ≤ 128 ∧ ∀ l ∈ s, l.length ≤ 281474976710656 ∧ ∀ q ∈ l, 0 ≤ q.2 ∧ q.2 < s.length

set_option maxRecDepth 100000 in
theorem con_matches (r : Rel) (a b : Sys) (x y : Nat) (hr : Sized r a.length b.length) (ha : Closed1 a) (hb : Closed1 b) (hx : x < a.length) (hy : y < b.length) :
    Con Try.prog 40 [vr 0 r, vy 0 a, vy 0 b, vi x, vi y] [] fun u _ => u = .sc (.bool (matchesF r a b x y)) := by
  refine Con.intro Try.func40 rfl Try.ntmps40 Try.results40 (by kernel_rfl) (by simp) 0 (by simp) ?_
  have g1 := getvl hx
  have g2 := getvl hy
  have hlx : a[x]! ∈ a := by simp [hx]
  have hly : b[y]! ∈ b := by simp [hy]
  have hax := ha.2 _ hlx
  have hby := hb.2 _ hly
  simp only [go_sem, hx, g1]
  refine LoopK.intro (fun i : Nat => ⟨32, [(4, .sc (.int .i64 y)), (5, .pb 0 0), (6, .pb 1 0), (7, .pb 2 0), (17, .sl 0 2 (a[x]!.map va)), (18, .sc (.int .i64 a[x]!.length)), (19, .sc (.int .i64 i))], [.sl 0 1 (r.map (vbl 0))] :: [.sl 0 1 (a.map (vl 0))] :: [.sl 0 1 (b.map (vl 0))] :: Ax a[x]! i⟩)
    (fun i => a[x]!.length - i) (fun i => i ≤ a[x]!.length ∧ ∀ j, j < i → (b[y]!.any fun q => q.1 == a[x]![j]!.1 && within r a[x]![j]! q) = true) 0 ⟨by omega, fun j hj => by omega⟩ ?_ ?_
  · simp only [go_sem, Ax, List.take_zero, List.map_nil]
  rintro i ⟨hi, hb2⟩
  by_cases h : i < a[x]!.length
  · have hg := getva h
    have hw : IntKind.i64.wrap (i + 1) = i + 1 := wrap_in (by omega) (by omega)
    have hBl := Ax_len (l := a[x]!) (i := i) (by omega)
    have hBn := fun z => Ax_new (l := a[x]!) (i := i) (x := z) (by omega)
    have hBs := fun z => Ax_snoc (l := a[x]!) (i := i) (x := z) h
    have hBx := Ax_last h
    simp only [go_sem, h, hg, hBl, hBn, hBs, hBx, hy, g2]
    have hmem : a[x]![i]! ∈ a[x]! := mem_bang h
    have hp := (ha.2 _ hlx).2 _ hmem
    have hpn : a[x]![i]!.2.toNat < r.length := by rw [hr.1]; omega
    have hrow := hr.2 r[a[x]![i]!.2.toNat]! (by rw [getElem!_pos r _ hpn]; exact List.getElem_mem _)
    refine CallU.look (con_containsArc b[y]! 58 [.fp [vi a[x]![i]!.1, vi a[x]![i]!.2] 0, .fp [vr 0 r] 0] (fun q => q.1 == a[x]![i]!.1 && within r a[x]![i]! q) (by simp only [go_sem]) (fun q hq => ?_) (by omega)) (by simp only [go_sem]) (by simp only [go_sem, hBx]) ?_
    · have hq2 := (hb.2 _ hly).2 q hq
      exact con_match1 r a[x]![i]! q hp.1 hpn hq2.1 (by rw [hrow]; omega)
    rintro u bx rfl
    cases hu : b[y]!.any fun q => q.1 == a[x]![i]!.1 && within r a[x]![i]! q
    · have e : matchesF r a b x y = false := by
        unfold matchesF
        rw [List.all_eq_false]
        exact ⟨_, hmem, by rw [hu]; exact Bool.false_ne_true⟩
      simp only [go_sem, hu, e]
    · simp only [go_sem, hu, hw]
      refine roundK.intro (i + 1) ⟨by omega, fun j hj => ?_⟩ (by omega) ?_
      · by_cases hji : j = i
        · subst hji; exact hu
        · exact hb2 j (by omega)
      · simp only [go_sem]
  · simp only [go_sem, h]
    have e : matchesF r a b x y = true := by
      unfold matchesF
      rw [List.all_eq_true]
      intro p hp
      obtain ⟨j, hj⟩ := List.getElem?_of_mem hp
      have hjl := (List.getElem?_eq_some_iff.1 hj).1
      have := hb2 j (by omega)
      have e : a[x]![j]! = p := bang_of hj
      rw [e] at this; exact this
    rw [e]
end Go.AM
