/-
  Walks: the determinant; the leading rows and columns.
-/
import Derived.Test.YtmkbhopiaohcmaaW9
import Derived.Test.YtmkbhopiaohcmaaW4
namespace Go.AM
open Go Go.Proofs Go.RowKit

/-- the expansion along a row, so far: the sum, and the sign -/
def detGo (rec : List Int → Int) (row cols : List Int) : Nat → Int × Int
  | 0 => (0, 1)
  | k + 1 => (if row[cols[k]!.toNat]! = 0 then (detGo rec row cols k).1 else w64 ((detGo rec row cols k).1 + w64 (w64 ((detGo rec row cols k).2 * row[cols[k]!.toNat]!) * rec (cols.take k ++ cols.drop (k + 1)))), w64 (0 - (detGo rec row cols k).2))
def detF (m : List (List Int)) : List Int → List Int → Int
  | [], _ => 1
  | r :: rs, cols => (detGo (detF m rs) m[r.toNat]! cols cols.length).1

/-- all rows are of n elements -/
def Wide (n : Nat) (m : List (List Int)) : Prop := ∀ row ∈ m, row.length = n
theorem Wide.at {n : Nat} {m : List (List Int)} (h : Wide n m) {i : Nat} (hi : i < m.length) : m[i]!.length = n := h _ (by simp [hi])
/-- places below n -/
def Below (n : Nat) (l : List Int) : Prop := ∀ x ∈ l, 0 ≤ x ∧ x < n
theorem Below.at {n : Nat} {l : List Int} (h : Below n l) {i : Nat} (hi : i < l.length) : 0 ≤ l[i]! ∧ l[i]! < n := h _ (by simp [hi])

@[go_sem] theorem succ_beq0 {n : Nat} : (((n : Int) + 1) == 0) = false := by simp; omega
@[go_sem] theorem take_len {α β : Type} {l : List α} {f : α → β} : (l.map f).take l.length = l.map f := List.take_of_length_le (by simp)
@[go_sem] theorem vi_memless {l : List Int} : (l.map vi).all memless = true := by simp [List.all_map, Function.comp_def, vi, memless]
attribute [go_sem] true_or or_true false_or or_false
theorem geti {l : List Int} {x : Int} (h : x.toNat < l.length) : (l.map vi)[x.toNat]? = some (.sc (.int .i64 l[x.toNat]!)) := getv h

set_option maxRecDepth 100000 in
set_option maxHeartbeats 4000000 in
theorem con_det (m : List (List Int)) (n : Nat) (hn : n ≤ 1000) (hm : m.length ≤ 1000) (hw : Wide n m) : ∀ (rows cols : List Int), Below m.length rows → Below n cols → rows.length ≤ 1000 → cols.length ≤ 1000 →
    Con Try.prog 33 [vm 0 m, vs 0 rows, vs 0 cols] [] fun r _ => r = vi (detF m rows cols)
  | [], cols, _, _, _, _ => by
    refine Con.intro Try.func33 rfl Try.ntmps33 Try.results33 (by kernel_rfl) (by simp) 0 (by simp) ?_
    simp only [go_sem, detF]
  | r :: rs, cols, hr, hc, hrl, hcl => by
    have ih := fun cols' h1 h2 => con_det m n hn hm hw rs cols' (fun x hx => hr x (by simp [hx])) h1 (by simp at hrl; omega) h2
    refine Con.intro Try.func33 rfl Try.ntmps33 Try.results33 (by kernel_rfl) (by simp) 0 (by simp) ?_
    have hr0 := hr r (by simp)
    have hrt : r.toNat < m.length := by omega
    have hgm := getm hrt
    have hrow := hw.at hrt
    simp only [go_sem]
    refine LoopK.intro (fun k : Nat => ⟨56, [(0, vm 0 m), (1, vs 0 (r :: rs)), (2, vs 0 cols), (7, vi (detGo (detF m rs) m[r.toNat]! cols k).1), (8, vi (detGo (detF m rs) m[r.toNat]! cols k).2), (15, vs 0 cols), (16, vi cols.length), (17, vi k)], []⟩)
      (fun k => cols.length - k) (fun k => k ≤ cols.length) 0 (by omega) ?_ ?_
    · simp only [go_sem, detGo]
    intro k hk
    by_cases h : k < cols.length
    · have hg := getv h
      have hck := hc.at h
      have hct : cols[k]!.toNat < m[r.toNat]!.length := by omega
      have hgc := getv hct
      have hwk : IntKind.i64.wrap (k + 1) = k + 1 := wrap_in (by omega) (by omega)
      have hs : 0 < (rs.length : Int) + 1 := by omega
      have hcl2 : cols[k]! < (m[r.toNat]!.length : Int) := by omega
      by_cases hx : m[r.toNat]![cols[k]!.toNat]! = 0
      · simp only [go_sem, h, hg, hr0, hgm, hck, hcl2, hgc, hx, hwk, hs]
        refine roundK.intro (k + 1) (by omega) (by omega) ?_
        simp only [go_sem, detGo, hx, w64]
      · have hxb : (m[r.toNat]![cols[k]!.toNat]! != 0) = true := bne_iff_ne.2 hx
        have hk1 : ((k : Int) + 1).toNat = k + 1 := by omega
        have hkn : 0 ≤ (k : Int) + 1 := by omega
        have hB : bound [cols.take k, cols.drop (k + 1)] := ⟨by simp, fun row hr => by
          simp only [List.mem_cons, List.not_mem_nil, or_false] at hr
          rcases hr with rfl | rfl
          · rw [List.length_take]; omega
          · rw [List.length_drop]; omega⟩
        have hB2 : Below n (cols.take k ++ cols.drop (k + 1)) := fun x hx => by
          rcases List.mem_append.1 hx with h | h
          · exact hc x (List.mem_of_mem_take h)
          · exact hc x (List.mem_of_mem_drop h)
        simp only [go_sem, h, hg, hr0, hgm, hck, hcl2, hgc, hxb, hwk, hs]
        refine DrawK.walk 19 mixed (by kernel_rfl) ?_
        simp only [go_sem, hwk, hk1, hkn]
        refine ⟨by omega, by omega, by omega, by omega, ?_⟩
        refine CallY.mk (con_concat _ hB) (by simp only [go_sem]; simp [vs, List.map_take, List.map_drop]) (by simp only [go_sem]) (by simp only [go_sem]) ?_
        simp only [go_sem]
        refine CallY.mk (ih (cols.take k ++ cols.drop (k + 1)) hB2 (by simp; omega)) (by simp only [go_sem]; simp [vs]) (by simp only [go_sem]) (by simp only [go_sem]) ?_
        simp only [go_sem, hwk]
        refine roundK.intro (k + 1) (by omega) (by omega) ?_
        simp only [go_sem, detGo, hx, w64]
    · have : k = cols.length := by omega
      subst this
      simp only [go_sem, Nat.lt_irrefl, detF]
end Go.AM
