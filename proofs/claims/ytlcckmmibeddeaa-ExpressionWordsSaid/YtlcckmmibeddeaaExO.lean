/-
 Walks: ref02.Drops (chapter 9).
-/
import Derived.Test.YtlcckmmibeddeaaExN
namespace Go.AM
open Go Go.Proofs Go.RowKit
set_option maxRecDepth 100000
set_option maxHeartbeats 8000000
theorem memP_erase : ∀ (n : Nat) (p : List TmD) (w : List Int) (i : Nat), p.length + w.length <= n -> memP p w = true -> memP p (w.eraseIdx i) = true
 | _, _, [], _, _, h => h
 | _, _, x :: w, 0, _, h => memP_drop h
 | _, [], x :: w, i + 1, _, h => by rw [memP_none] at h; cases h
 | 0, u :: q, x :: w, i + 1, hn, _ => by simp at hn
 | n + 1, u :: q, x :: w, i + 1, hn, h => by
  simp only [List.length_cons] at hn
  rw [List.eraseIdx_cons_succ, memP_cons]
  rw [memP_cons] at h
  split at h
  ·rename_i hx
   rw [if_pos hx]
   split at h
   ·rename_i hs
    rw [if_pos hs]; exact memP_erase n (u :: q) w i (by simp only [List.length_cons]; omega) h
   ·rename_i hs
    rw [if_neg hs]; exact memP_erase n q w i (by omega) h
  ·rename_i hx
   rw [if_neg hx]; exact memP_erase n q (x :: w) (i + 1) (by simp only [List.length_cons]; omega) h
def wotTree : Tr := .front 0 (.front 1 (.front 4 (.front 5 (.alt (.one 2 (.alt (.one 3 (.one 6 (.one 7 (.one 8 (.one 9 .done))))) (.one 6 (.alt (.one 3 (.one 7 (.one 8 (.one 9 .done)))) (.one 7 (.one 3 (.one 8 (.one 9 .done)))))))) (.one 6 (.alt (.one 2 (.alt (.one 3 (.one 7 (.one 8 (.one 9 .done)))) (.one 7 (.one 3 (.one 8 (.one 9 .done)))))) (.one 7 (.one 2 (.one 3 (.one 8 (.one 9 .done)))))))))))
theorem con_r02Without (w : List Int) (i : Nat) (hi : i < w.length) (hl : w.length <= 1000) : Con Try.prog 33 [vs 0 w, vi i] [] fun r _ => r = vs 0 (w.eraseIdx i) := by
 refine Con.frozX ?_
 refine Con.intro Try.func33 rfl Try.ntmps33 Try.results33 (by kernel_rfl) (by simp) 0 (by simp) ?_
 have hw : IntKind.i64.wrap ((i : Int) + 1) = ((i + 1 : Nat) : Int) := by rw [wrap_in (by omega) (by omega)]; omega
 have htake : List.take w.length (w.map vi) = w.map vi := List.take_of_length_le (by simp)
 have hi1 : i <= w.length := by omega
 have hi2 : i + 1 <= w.length := by omega
 have hr1 : roomFor i 8 := by simp only [roomFor]; omega
 simp only [go_sem]
 refine DrawK.tree wotTree mixed (by kernel_rfl) ?_
 unfold wotTree
 have htn : ((i : Int) + 1).toNat = i + 1 := by omega
 have hfin : leV (AV.freeze (fun _ => true) (.sl 2 1 (List.take i (w.map vi) ++ List.drop ((i : Int) + 1).toNat (w.map vi)))) (.sl 0 1 ((w.eraseIdx i).map vi)) := by
  rw [htn, List.eraseIdx_eq_take_drop_succ, List.map_append, List.map_take, List.map_drop]; exact leV_refl _
 simp only [go_sem, hw, htake, hi1, List.length_map]
 repeat' (first | with_reducible apply andK_mk | exact trivial | with_reducible refine And.intro ?_ ?_ | exact hfin | (simp only [roomFor, List.length_take, List.length_drop, List.length_map]; omega) | omega | simp only [go_sem, hw, htake, hi1, List.length_map])
theorem con_r02Valid (w : List Int) (hl : w.length <= 12) (hx : ∀ x ∈ w, 0 <= x /\ x < 2) : Con Try.prog 31 [vs 0 w] [] fun r _ => r = vb true := by
 refine Con.intro Try.func31 rfl Try.ntmps31 Try.results31 (by kernel_rfl) (by simp) 0 (by simp) ?_
 simp only [go_sem]
 refine LoopK.intro (fun i : Nat => ⟨25, [(0, vs 0 w), (3, vi i)], []⟩)
  (fun i => w.length - i) (fun i => i <= w.length) 0 (Nat.zero_le _) ?_ ?_
 ·simp only [go_sem]
 rintro i hi
 by_cases h : i < w.length
 case neg =>
  have h3 : (w.length : Int) <= 12 := by omega
  simp only [go_sem, h, h3, decide_true, List.length_map]
 have hg := getv h
 have hwi : IntKind.i64.wrap (i + 1) = i + 1 := wrap_in (by omega) (by omega)
 obtain ⟨k1, k2⟩ := hx _ (mem_bangI h)
 have e1 : ¬ w[i]! < 0 := by omega
 have e2 : ¬ 16 <= w[i]! := by omega
 simp only [go_sem, h, hg, e1, e2, hwi, List.length_map]
 refine roundK.intro (i + 1) (by omega) (by omega) ?_
 simp only [go_sem]
theorem con_r02Drops (w : List Int) (hl : w.length <= 12) (hx : ∀ x ∈ w, 0 <= x /\ x < 2) : Con Try.prog 15 [vs 0 w] [] fun r _ => ∃ L : List (List Int), r = vm 0 L /\ (∀ x ∈ L, ∃ i, x = w.eraseIdx i) /\ L.length <= 12 := by
 refine Con.intro Try.func15 rfl Try.ntmps15 Try.results15 (by kernel_rfl) (by simp) 0 (by simp) ?_
 simp only [go_sem]
 refine LoopK.intro (fun x : Nat × List (List Int) => ⟨21, [(0, vs 0 w), (3, vm 0 x.2), (4, vi x.1)], []⟩)
  (fun x => w.length - x.1) (fun x => x.1 <= w.length /\ x.2.length <= x.1 /\ ∀ y ∈ x.2, ∃ i, y = w.eraseIdx i) (0, []) ⟨Nat.zero_le _, Nat.le_refl _, fun y hy => absurd hy (by simp)⟩ ?_ ?_
 ·simp only [go_sem, List.map_nil]
  all_goals exact leV_nil _ _
 rintro ⟨i, L⟩ ⟨hi, hL, hm⟩
 simp only at hi hL hm
 have cv := con_r02Valid w hl hx
 simp only [go_sem]
 refine CallU.free cv (by simp only [go_sem]) (by simp only [go_sem]) ?_
 rintro r bx rfl
 by_cases h : i < w.length
 case neg =>
  simp only [go_sem, h, List.length_map]
  exact ⟨L, rfl, hm, by omega⟩
 have hwi : IntKind.i64.wrap (i + 1) = i + 1 := wrap_in (by omega) (by omega)
 have ho := con_r02Without w i h (by omega)
 have hel : ∀ k, (w.eraseIdx k).length <= w.length := fun k => by rw [List.length_eraseIdx]; split <;> omega
 have hp := con_putA L (w.eraseIdx i) (by omega) (by have := hel i; omega) (fun y hy => by obtain ⟨k, rfl⟩ := hm y hy; have := hel k; omega)
 simp only [go_sem, h, List.length_map]
 refine CallU.free ho (by simp only [go_sem]) (by simp only [go_sem]) ?_
 rintro r bx rfl
 simp only [go_sem]
 refine CallU.free hp (by simp only [go_sem]) (by simp only [go_sem]) ?_
 rintro r bx ⟨L', ⟨⟨rfl, h1⟩, h2⟩ | ⟨rfl, h1, h2⟩⟩
 ·simp only [go_sem, hwi]
  refine roundK.freeze (fun _ => true) (i + 1, L') ⟨by show i + 1 <= _; omega, by show L'.length <= i + 1; omega, fun y hy => hm y (h1 y hy)⟩ (by show w.length - (i + 1) < w.length - i; omega) ?_
  simp only [go_sem]
 ·simp only [go_sem, hwi]
  refine roundK.freeze (fun _ => true) (i + 1, L') ⟨by show i + 1 <= _; omega, by show L'.length <= i + 1; omega, fun y hy => (h1 y hy).elim (hm y) fun e => ⟨i, e⟩⟩ (by show w.length - (i + 1) < w.length - i; omega) ?_
  simp only [go_sem]
end Go.AM
