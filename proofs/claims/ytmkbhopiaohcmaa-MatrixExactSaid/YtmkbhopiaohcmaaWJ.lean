/-
  Walks: small, which writes into the table that it is lent.
-/
import Derived.Test.YtmkbhopiaohcmaaWI
import Derived.Test.YtmkbhopiaohcmaaWE
import Derived.Test.YtmkbhopiaohcmaaAmU
namespace Go.AM
open Go Go.Proofs Go.RowKit

/-- f of the first k -/
def upTo {α : Type} (f : α → α) (l : List α) (k : Nat) : List α := (l.take k).map f ++ l.drop k
theorem upTo_zero {α : Type} (f : α → α) (l : List α) : upTo f l 0 = l := by simp [upTo]
theorem upTo_len {α : Type} (f : α → α) (l : List α) (k : Nat) : (upTo f l k).length = l.length := by simp [upTo]; omega
theorem upTo_end {α : Type} (f : α → α) (l : List α) : upTo f l l.length = l.map f := by simp [upTo]
theorem upTo_at {α : Type} [Inhabited α] {f : α → α} {l : List α} {k : Nat} (h : k < l.length) : (upTo f l k)[k]! = l[k]! := by
  simp only [upTo]
  rw [getElem!_pos _ _ (by simp; omega), List.getElem_append_right (by simp; omega)]
  simp [h, Nat.min_eq_left (Nat.le_of_lt h)]
theorem upTo_set {α : Type} [Inhabited α] {f : α → α} {l : List α} {k : Nat} (h : k < l.length) : (upTo f l k).set k (f l[k]!) = upTo f l (k + 1) := by
  simp only [upTo]
  have hmin : min k l.length = k := by omega
  have e : l.take (k + 1) = l.take k ++ [l[k]!] := by rw [List.take_add_one, List.getElem?_eq_getElem h]; simp [h]
  rw [e, List.map_append, List.set_append_right _ _ (by simp; omega), List.length_map, List.length_take, hmin, Nat.sub_self, List.drop_eq_getElem_cons h, List.set_cons_zero, List.append_assoc]
  rfl
theorem setSelf {α : Type} [Inhabited α] {l : List α} {k : Nat} : l.set k l[k]! = l := by
  apply List.ext_getElem?
  intro j
  rw [List.getElem?_set]
  by_cases h : k = j
  · subst h
    by_cases hk : k < l.length
    · simp [hk]
    · simp [hk]
  · simp [h]
theorem setAt {α : Type} [Inhabited α] {l : List α} {k : Nat} {x : α} (h : k < l.length) : (l.set k x)[k]! = x := by
  rw [getElem!_pos _ _ (by simpa using h)]; simp

def clip2 (x : Int) : Int := min 2 (max (-2) x)
def smallF (m : List (List Int)) : List (List Int) := m.map fun r => r.map clip2

set_option maxRecDepth 100000 in
set_option maxHeartbeats 1000000 in
theorem con_smallM (m : List (List Int)) (hm : m.length ≤ 1000000) (hr : ∀ r ∈ m, r.length ≤ 1000000) : ConC Try.prog 29 [vt 2 m] fun r => r = vt 2 (smallF m) := by
  refine ConC.intro Try.func29 rfl Try.ntmps29 Try.results29 (by kernel_rfl) (by simp) ?_
  simp only [go_sem]
  refine LoopK.intro (fun i : Nat => ⟨36, [(0, vt 2 (upTo (fun r => r.map clip2) m i)), (6, vi m.length), (7, vi i)], []⟩)
    (fun i => m.length - i) (fun i => i ≤ m.length) 0 (by omega) ?_ ?_
  · simp only [go_sem, upTo_zero]
  intro i hi
  by_cases h : i < m.length
  · have hwi : IntKind.i64.wrap (i + 1) = i + 1 := wrap_in (by omega) (by omega)
    have hgi := gett (t := 2) (i := i) (M := upTo (fun r => r.map clip2) m i) (by rw [upTo_len]; exact h)
    rw [upTo_at h] at hgi
    have hri := hr m[i]! (mem_at h)
    simp only [go_sem, h, hgi, upTo_len]
    refine LoopK.intro (fun k : Nat => ⟨36, [(0, vt 2 ((upTo (fun r => r.map clip2) m i).set i (upTo clip2 m[i]! k))), (3, vi i), (6, vi m.length), (7, vi i), (14, vi m[i]!.length), (15, vi k)], []⟩)
      (fun k => m[i]!.length - k) (fun k => k ≤ m[i]!.length) 0 (by omega) ?_ ?_
    · have e : (upTo (fun r => r.map clip2) m i).set i m[i]! = upTo (fun r => r.map clip2) m i := by
        have := setSelf (l := upTo (fun r => r.map clip2) m i) (k := i)
        rw [upTo_at h] at this; exact this
      simp only [go_sem, upTo_zero, e]
    intro k hk
    have hl1 : i < (upTo (fun r => r.map clip2) m i).length := by rw [upTo_len]; exact h
    have hg := gett (t := 2) (i := i) (M := (upTo (fun r => r.map clip2) m i).set i (upTo clip2 m[i]! k)) (by rw [List.length_set]; exact hl1)
    rw [setAt hl1] at hg
    by_cases hk2 : k < m[i]!.length
    · have hwk : IntKind.i64.wrap (k + 1) = k + 1 := wrap_in (by omega) (by omega)
      have hgk := getv (l := upTo clip2 m[i]! k) (i := k) (by rw [upTo_len]; exact hk2)
      rw [upTo_at hk2] at hgk
      have hcl : min 2 (max (-2) m[i]![k]!) = clip2 m[i]![k]! := rfl
      simp only [go_sem, hk2]
      refine DrawK.walk 15 mixed (by kernel_rfl) ?_
      simp only [go_sem, h, hk2, hg, hgk, upTo_len, List.length_set, hcl, hwk]
      refine roundK.intro (k + 1) (by omega) (by omega) ?_
      simp only [go_sem, setAt hl1, List.set_set, upTo_set hk2]
    · have hkl : k = m[i]!.length := by omega
      subst hkl
      simp only [go_sem, hk2, hwi]
      refine roundK.intro (i + 1) (by omega) (by omega) ?_
      simp only [go_sem]
      exact leV_so (by
        have := upTo_set (f := fun r => List.map clip2 r) h
        rw [upTo_end, this])
  · have hil : i = m.length := by omega
    subst hil
    simp only [go_sem, h, upTo_end, smallF]

/-- the products of a's rows with b's columns -/
def multF (a b : List (List Int)) : List (List Int) := a.map fun row => (List.range b[0]!.length).map fun j => dotF row (b.map fun r => r[j]!)
def multR (a b : List (List Int)) : List (List Int) × Int :=
  if checkF a ≠ 0 then ([], checkF a) else if checkF b ≠ 0 then ([], checkF b) else if b.length ≠ a[0]!.length then ([], 3) else (multF a b, 0)

def vpairt (r : List (List Int) × Int) : AV := .tup [if r.2 = 0 then vt 2 r.1 else .nil, vi r.2]

/-- the first k of a list's rows, then empty ones -/
def rowsTo (full : List (List Int)) (k : Nat) : List (List Int) := full.take k ++ List.replicate (full.length - k) []
theorem rowsTo_len (full : List (List Int)) (k : Nat) : (rowsTo full k).length = full.length := by simp [rowsTo]; omega
theorem rowsTo_zero (full : List (List Int)) : rowsTo full 0 = List.replicate full.length [] := by simp [rowsTo]
theorem rowsTo_end (full : List (List Int)) : rowsTo full full.length = full := by simp [rowsTo]
theorem rowsTo_at {full : List (List Int)} {k : Nat} (h : k < full.length) : (rowsTo full k)[k]! = [] := by
  simp only [rowsTo]
  rw [getElem!_pos _ _ (by simp; omega), List.getElem_append_right (by simp; omega)]
  simp
theorem rowsTo_set {full : List (List Int)} {k : Nat} (h : k < full.length) : (rowsTo full k).set k full[k]! = rowsTo full (k + 1) := by
  simp only [rowsTo]
  have hmin : min k full.length = k := by omega
  have e : full.take (k + 1) = full.take k ++ [full[k]!] := by rw [List.take_add_one, List.getElem?_eq_getElem h]; simp [h]
  have e2 : full.length - k = (full.length - (k + 1)) + 1 := by omega
  rw [e, List.set_append_right _ _ (by simp; omega), List.length_take, hmin, Nat.sub_self, e2, List.replicate_succ, List.set_cons_zero, List.append_assoc]
  rfl

/-- a row forgotten with what bears the table's own tag, then laid anew -/
@[go_sem] theorem rowsA_killset2 {t i : Nat} {M : List (List Int)} {r : List Int} (h : t < 1048576) : ((rowsA t M).map (killRow t ∘ killRow (subT t i))).set i (.sl (subT t i) 1 (r.map vi)) = rowsA t (M.set i r) := by
  have e : (rowsA t M).map (killRow t ∘ killRow (subT t i)) = (rowsA t M).map (killRow (subT t i)) := by
    apply List.ext_getElem?
    intro j
    simp only [List.getElem?_map, rowsA_at, Option.map_map]
    cases M[j]? with
    | none => rfl
    | some r =>
      simp only [Option.map_some, Function.comp, Option.some.injEq]
      by_cases hji : j = i
      · subst hji; simp [killRow]
      · simp [killRow, sub_sub, hji, sub_lit h]
  rw [e, rowsA_killset]

set_option maxRecDepth 100000 in
set_option maxHeartbeats 4000000 in
theorem con_multiply (a b : List (List Int)) (ha : Fits a) (hb : Fits b) : Con Try.prog 23 [vm 0 a, vm 0 b] [] fun r _ => r = vpairt (multR a b) := by
  refine Con.intro Try.func23 rfl Try.ntmps23 Try.results23 (by kernel_rfl) (by simp) 0 (by simp) ?_
  simp only [go_sem]
  refine CallU.free (con_check a ha) (by simp only [go_sem]) (by simp only [go_sem]) ?_
  rintro r bx rfl
  by_cases h1 : checkF a ≠ 0
  · have hx : (checkF a != 0) = true := bne_iff_ne.2 h1
    simp only [go_sem, hx, vpairt, multR, h1]
  have h1' : checkF a = 0 := by omega
  have hVa := check_ok h1'
  simp only [go_sem, h1']
  refine CallU.free (con_check b hb) (by simp only [go_sem]) (by simp only [go_sem]) ?_
  rintro r bx rfl
  by_cases h2 : checkF b ≠ 0
  · have hx : (checkF b != 0) = true := bne_iff_ne.2 h2
    simp only [go_sem, hx, vpairt, multR, h1', h2]
  have h2' : checkF b = 0 := by omega
  have hVb := check_ok h2'
  have hpa := hVa.pos
  have hpb := hVb.pos
  have hga := getm hpa
  have hgb := getm hpb
  have hal := hVa.le
  have hbl := hVb.le
  have hbc := hVb.cle
  simp only [go_sem, h2', hpa, hga]
  by_cases h3 : b.length = a[0]!.length
  · obtain ⟨F, hF⟩ : ∃ F, F = multF a b := ⟨_, rfl⟩
    have hFl : F.length = a.length := by rw [hF]; simp [multF]
    have hFr : ∀ i, i < a.length → F[i]! = (List.range b[0]!.length).map fun j => dotF a[i]! (b.map fun r => r[j]!) := fun i hi => by rw [hF]; simp [multF, hi]
    simp only [go_sem, h3]
    refine ⟨by omega, by omega, by omega, ?_⟩
    refine LoopK.intro (fun i : Nat => ⟨63, [(0, vm 0 a), (1, vm 0 b), (8, vt 2048 (rowsTo F i)), (32, vm 0 a), (33, vi a.length), (34, vi i)], []⟩)
      (fun i => a.length - i) (fun i => i ≤ a.length) 0 (by omega) ?_ ?_
    · simp only [go_sem, rowsTo_zero, hFl]
      exact leV_slso (by omega) rowsLe_nils
    intro i hi
    by_cases h : i < a.length
    · have hwi : IntKind.i64.wrap (i + 1) = i + 1 := wrap_in (by omega) (by omega)
      have hgi := getm h
      have hri := hVa.at h
      have hl1 : i < (rowsTo F i).length := by rw [rowsTo_len]; omega
      simp only [go_sem, h, hgi, hpb, hgb]
      refine LoopK.intro (fun k : Nat => ⟨63, [(0, vm 0 a), (1, vm 0 b), (8, vt 2048 ((rowsTo F i).set i (F[i]!.take k))), (9, vi i), (10, vs 0 a[i]!), (32, vm 0 a), (33, vi a.length), (34, vi i), (42, vi b[0]!.length), (43, vi k)], []⟩)
        (fun k => b[0]!.length - k) (fun k => k ≤ b[0]!.length) 0 (by omega) ?_ ?_
      · have e : (rowsTo F i).set i [] = rowsTo F i := by
          have := setSelf (l := rowsTo F i) (k := i)
          rw [rowsTo_at (by omega)] at this; exact this
        simp only [go_sem, List.take_zero, e]
      intro k hk
      have hFil : F[i]!.length = b[0]!.length := by rw [hFr i h]; simp
      have hg := gett (t := 2048) (i := i) (M := (rowsTo F i).set i (F[i]!.take k)) (by rw [List.length_set]; exact hl1)
      rw [setAt hl1] at hg
      by_cases hk2 : k < b[0]!.length
      · have hwk : IntKind.i64.wrap (k + 1) = k + 1 := wrap_in (by omega) (by omega)
        have htk : F[i]!.take (k + 1) = F[i]!.take k ++ [dotF a[i]! (b.map fun r => r[k]!)] := by
          rw [List.take_add_one, hFr i h, List.getElem?_map, List.getElem?_range hk2]; rfl
        simp only [go_sem, hk2]
        refine DrawK.front [0, 1] 12 mixed (by kernel_rfl) ?_
        simp only [go_sem, h, hk2, hg, rowsTo_len, List.length_set, hFl]
        refine CallY.mk (con_column b k (fun row hr => by rw [(hVb.row row hr).1]; exact hk2) (by omega)) (by simp only [go_sem]) (by simp only [go_sem]) (by simp only [go_sem]) ?_
        simp only [go_sem]
        refine CallY.mk (con_dot a[i]! (b.map fun r => r[k]!) (by rw [List.length_map]; omega) (ha.at h)) (by simp only [go_sem]) (by simp only [go_sem]) (by simp only [go_sem]) ?_
        simp only [go_sem, h, rowsTo_len, List.length_set, hFl, List.length_map]
        refine ⟨by simp [roomFor]; omega, ?_⟩
        refine roundK.intro (k + 1) (by omega) (by omega) ?_
        have ec : (List.map vi (List.take k F[i]!) ++ [AV.sc (Value.int IntKind.i64 (dotF a[i]! (List.map (fun row => row[k]!) b)))]) = (F[i]!.take (k + 1)).map vi := by
          rw [htk, List.map_append]; rfl
        simp only [go_sem, hwk, ec, rowsA_killset2 (show (2048 : Nat) < 1048576 by omega), List.set_set]
      · have hkl : k = b[0]!.length := by omega
        subst hkl
        have e : F[i]!.take b[0]!.length = F[i]! := List.take_of_length_le (by omega)
        simp only [go_sem, hk2, hwi]
        refine roundK.intro (i + 1) (by omega) (by omega) ?_
        simp only [go_sem, e, rowsTo_set (show i < F.length by omega)]
    · have hil : i = a.length := by omega
      subst hil
      have e : rowsTo F a.length = F := by rw [← hFl]; exact rowsTo_end F
      simp only [go_sem, h, e, vpairt, multR, h1', h2', h3, ← hF]
  · simp only [go_sem, h3, vpairt, multR, h1', h2']
end Go.AM
