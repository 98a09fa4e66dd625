/-
 Walks: words above none, where a word may be empty (chapter 9); printed by gen_exu.py.
-/
import Derived.Test.YtlcckmmibeddeaaX1
namespace Go.AM
open Go Go.Proofs Go.RowKit
set_option maxRecDepth 100000
set_option maxHeartbeats 8000000
structure BelOkM (n : Nat) (ws : List (List Int)) (m : Nat) (B : Nat -> List (List TmD)) : Prop where
 le : m <= ws.length
 nil : m < ws.length -> ws[m]! = []
 full : ∀ k, k < m -> ws[k]! ≠ []
 zero : B 0 = [[allT n n]]
 ok : ∀ k, k <= m -> ∀ p ∈ B k, OkP p /\ ShortP p /\ p.length <= 12
 few : ∀ k, k <= m -> (B k).length <= 1000
 step : ∀ k, k < m -> Con Try.prog 34 [.sl 0 1 ((belowStep n (B k) ws[k]!).map vPr)] [] fun r _ => r = .sl 0 1 ((B (k + 1)).map vPr)
theorem con_xBelowM (n : Nat) (ws : List (List Int)) (m : Nat) (B : Nat -> List (List TmD)) (hB : BelOkM n ws m B) (hn : 1 <= n /\ n <= 6) (h3 : ws.length <= 3) (hw : ∀ w ∈ ws, w.length <= 3) (hx : ∀ w ∈ ws, ∀ x ∈ w, 0 <= x /\ x < n) :
  Con Try.prog 20 [vi n, vm 0 ws] [] fun r _ => r = .tup [.sl 0 1 ((if m < ws.length then [] else B m).map vPr), vi 0] := by
 refine Con.frozX ?_
 refine Con.intro Try.func20 rfl Try.ntmps20 Try.results20 (by kernel_rfl) (by simp) 0 (by simp) ?_
 have c1 := con_containsRows ws 40 [] (fun w => decide (3 < w.length)) (by simp only [go_sem]) (fun w hh => con_xbelow1 w (by have := hw w hh; omega)) (by omega)
 have e1 : (ws.any fun w => decide (3 < w.length)) = false := by
  rw [List.any_eq_false]; intro w hh; have := hw w hh; simp; omega
 rw [e1] at c1
 have hfl := flat_len fun w hh => hw w hh
 have c2 := con_containsInt ws.flatten 43 [.fp [vi n] 0] (fun x => !decide (0 <= x /\ x < (n : Int))) (by simp only [go_sem]) (fun x _ => con_xbelow2 n x) (by omega)
 rw [in_all hx] at c2
 have c3 : Con Try.prog 42 [vm 0 ws] [] fun r _ => r = vs 0 ws.flatten :=
  Con.frozX ((con_mxConcat ws ⟨by omega, fun w hh => by have := hw w hh; omega⟩).mono fun r _ e => by subst e; exact leV_refl _)
 have c4 := con_xallF n n (by omega)
 simp only [vTm] at c4
 simp only [go_sem] at c1 c2 c3 c4
 have hnn : decide (1 <= (n : Int) /\ (n : Int) <= 6) = true := decide_eq_true (by omega)
 have h3' : ¬ (3 : Int) < ws.length := by omega
 have cn := con_xNumber n
 rw [hnn] at cn
 simp only [go_sem]
 refine CallU.free cn (by simp only [go_sem]) (by simp only [go_sem]) ?_
 rintro r bx rfl
 simp only [go_sem, h3', List.length_map]
 refine CallU.look c1 (by simp only [go_sem]) (by simp only [go_sem]) ?_
 rintro r bx rfl
 simp only [go_sem]
 refine CallU.free c3 (by simp only [go_sem]) (by simp only [go_sem]) ?_
 rintro r bx rfl
 simp only [go_sem]
 refine CallU.look c2 (by simp only [go_sem]) (by simp only [go_sem]) ?_
 rintro r bx rfl
 simp only [go_sem]
 refine CallU.free c4 (by simp only [go_sem]) (by simp only [go_sem]) ?_
 rintro r bx rfl
 simp only [go_sem]
 refine LoopK.freeze (fun _ => true) (fun k : Nat => ⟨61, [(1, vm 0 ws), (2, .pb 0 0), (6, .sl 0 1 ((B k).map vPr)), (34, vm 0 ws), (35, vi ws.length), (36, vi k)], [[vi n]]⟩)
  (fun k => ws.length - k) (fun k => k <= m) 0 (Nat.zero_le _) ?_ ?_
 ·simp only [go_sem, hB.zero, List.map_cons, List.map_nil]
 rintro k hk
 have hmw := hB.le
 by_cases hkm : k < m
 case neg =>
  obtain rfl : k = m := by omega
  by_cases h : k < ws.length
  ·have hg := getm h
   have he := hB.nil h
   rw [he] at hg
   rw [if_pos h]
   simp only [go_sem, h, hg, List.map_nil, List.length_nil]
   exact leV_tup ⟨leV_nil _ _, leV_refl _, trivial⟩
  ·rw [if_neg h]
   simp only [go_sem, h]
   try exact leV_refl _
 have h : k < ws.length := by omega
 have hg := getm h
 have hwk := hw _ (mem_bang h)
 have hwf := hB.full k hkm
 have hw1 : IntKind.i64.wrap (k + 1) = k + 1 := wrap_in (by omega) (by omega)
 have hl0 : ((ws[k]!.length : Int) == 0) = false := by
  have := List.length_pos_iff.2 hwf
  exact beq_eq_false_iff_ne.2 (by omega)
 have cw := con_xwithout n ws[k]! (by omega) (by omega)
 simp only [vPr] at cw
 simp only [go_sem] at cw
 have hf := hB.few k hk
 have hwl := without_len n ws[k]!
 simp only [go_sem, h, hg, hl0, List.length_map]
 refine LoopK.intro (fun j : Nat => ⟨61, [(1, vm 0 ws), (2, .pb 0 0), (6, .sl 0 1 ((B k).map vPr)), (8, vs 0 ws[k]!), (9, .sl 3584 1 ((((B k).take j).flatMap fun p => meetP p (withoutP n ws[k]!)).map vPr)), (34, vm 0 ws), (35, vi ws.length), (36, vi k), (43, .sl 0 1 ((B k).map vPr)), (44, vi (B k).length), (45, vi j)], [[vi n]]⟩)
  (fun j => (B k).length - j) (fun j => j <= (B k).length) 0 (Nat.zero_le _) ?_ ?_
 ·simp only [go_sem, List.take_zero, List.flatMap_nil, List.map_nil]
  all_goals exact leB_self _
 rintro j hj
 by_cases h2 : j < (B k).length
 case neg =>
  have e : (B k).take j = B k := List.take_of_length_le (by omega)
  have cm := hB.step k hkm
  unfold belowStep at cm
  simp only [go_sem, h2, e]
  refine CallU.freeze cm (by simp only [go_sem]) (by simp only [go_sem]) ?_
  rintro r bx rfl
  simp only [go_sem, hw1]
  refine roundK.intro (k + 1) (by omega) (by omega) ?_
  simp only [go_sem]
 have hg2 := getPr h2
 have hw2 : IntKind.i64.wrap (j + 1) = j + 1 := wrap_in (by omega) (by omega)
 obtain ⟨p1, p2, p3⟩ := hB.ok k hk _ (mem_bangI h2)
 have cm := con_xmeet 18 (B k)[j]! (withoutP n ws[k]!) (by omega) (by omega) p1 (without_ok n _) p2 (without_short n (by omega) _)
 have hml := meet_len 18 (B k)[j]! (withoutP n ws[k]!) (by omega)
 simp only [vPr] at cm
 have hsz : (((B k).take j).flatMap fun p => meetP p (withoutP n ws[k]!)).length <= 1000 * 262144 := by
  refine Nat.le_trans (flatMap_len (c := 262144) _ fun p hp => ?_) (Nat.mul_le_mul_right _ (Nat.le_trans (by rw [List.length_take]; omega) hf))
  have := hB.ok k hk p (List.mem_of_mem_take hp)
  exact Nat.le_trans (meet_len 18 p _ (by omega)) (by decide)
 have e : (((B k).take (j + 1)).flatMap fun p => meetP p (withoutP n ws[k]!)).map vPr = (((B k).take j).flatMap fun p => meetP p (withoutP n ws[k]!)).map vPr ++ (meetP (B k)[j]! (withoutP n ws[k]!)).map vPr := by
  rw [List.take_succ_eq_append_getElem h2, List.flatMap_append, List.map_append, <- getElem!_pos (B k) j h2]; simp
 simp only [go_sem, h2, hg2, List.length_map]
 refine CallU.free cw (by simp only [go_sem]) (by simp only [go_sem]) ?_
 rintro r bx rfl
 simp only [go_sem]
 refine CallU.free cm (by simp only [go_sem]) (by simp only [go_sem]) ?_
 rintro r bx rfl
 simp only [go_sem, hw2]
 refine ⟨by simp only [roomFor]; omega, ?_⟩
 refine roundK.intro (j + 1) (by omega) (by omega) ?_
 simp only [go_sem, e]
end Go.AM
