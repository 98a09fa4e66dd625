/- CmN CmO CmP GA LMod MxB MxC MxD MxE MxF CmQ CmR CmS CmT LEff LFlat FA FK MxI MxM CrA CrB -/
import Derived.Test.Ytoglpcfaojcmeaag14
import Derived.Test.Ytoglpcfaojcmeaag13
import Derived.Test.Ytoglpcfaojcmeaag12
import Derived.Test.Ytoglpcfaojcmeaag11
namespace Go.AM
open Go Go.Proofs Go.RowKit
theorem DrawK.meet {P : Program} {ops : Array Oper} {σ : St} {K : St → Prop} (τ : St) (h : DrawK P ops σ fun σ' => σ'.le τ) (hk : K τ) : DrawK P ops σ K :=
 fun G0 w0 G a w id Q t hs hQ => h G0 w0 G a w id Q t hs fun _ G' a' w' hl h' => hQ τ G' a' w' hk (h'.le hl)
theorem andK_mk {p q : Prop} (h1 : p) (h2 : q) : andK p q := ⟨h1, h2⟩
def vPT (p : Int × Int) : AV := .ag [vi p.1, vi p.2, .nil, .nil]
def flatT (t : Nat) (ps : List (Int × Int)) : AV := .ag [vi 3, vi 0, .nil, .sl t 4 (ps.map vPT)]
attribute [go_sem] vPT flatT
set_option maxRecDepth 100000
theorem con_nan (x : Int) : Con Try.prog 86 [vi x] [] fun r _ => r = .sc (.bool false) := by
 refine Con.intro Try.func86 rfl Try.ntmps86 Try.results86 (by kernel_rfl) (by simp) 0 (by simp) ?_
 simp only [go_sem]
theorem con_cmpI (x y : Int) : Con Try.prog 64 [vi x, vi y] [] fun r _ => r = vi (ordI x y) := by
 refine Con.intro Try.func64 rfl Try.ntmps64 Try.results64 (by kernel_rfl) (by simp) 0 (by simp) ?_
 simp only [go_sem]
 refine CallU.free (con_nan x) (by simp only [go_sem]) (by simp only [go_sem]) ?_
 rintro r bx rfl
 simp only [go_sem]
 refine CallU.free (con_nan y) (by simp only [go_sem]) (by simp only [go_sem]) ?_
 rintro r bx rfl
 by_cases h1 : x < y
 ·have e : ordI x y = -1 := by unfold ordI; rw [if_pos h1]
  simp only [go_sem, h1, e]
 by_cases h2 : y < x
 ·have e : ordI x y = 1 := by unfold ordI; rw [if_neg h1, if_pos h2]
  simp only [go_sem, h1, h2, e]
 ·have e : ordI x y = 0 := by unfold ordI; rw [if_neg h1, if_neg h2]
  simp only [go_sem, h1, h2, e]
end Go.AM
namespace Go.AM
theorem mod_set {α : Type} {f : α → α} : ∀ {L : List α} {i : Nat} {a : α}, L[i]? = some a → L.modify i f = L.set i (f a)
 | [], _, _, h => by simp at h
 | x :: L, 0, a, h => by
  have : x = a := by simpa using h
  subst this; rfl
 | x :: L, i + 1, a, h => by
  have := mod_set (f := f) (L := L) (i := i) (a := a) (by simpa using h)
  rw [List.modify_succ_cons, this]; rfl
end Go.AM
namespace Go.AM
open Go Go.Proofs Go.RowKit
set_option maxRecDepth 100000
set_option maxHeartbeats 8000000
theorem getRw {l : List (List Int)} {i : Nat} (h : i < l.length) : (l.map (vs 0))[i]? = some (.sl 0 1 (l[i]!.map vi)) := by simp [vs, h]
theorem mod_row {l : List (List Int)} {i : Nat} {r : List Int} (h : i < l.length) : (l.map (vs 0)).modify i (updElem 0 [.sl 0 1 (r.map vi)]) = (l.set i r).map (vs 0) := by
 rw [mod_set (getRw h), List.map_set]; rfl
theorem con_lexC (a b : List Int) (ha : a.length ≤ 1000000) : Con Try.prog 50 [vs 0 a, vs 0 b] [] fun r _ => r = vi (lexC a b) := by
 refine Con.intro Try.func50 rfl Try.ntmps50 Try.results50 (by kernel_rfl) (by simp) 0 (by simp) ?_
 simp only [go_sem]
 refine LoopK.intro (fun i : Nat => ⟨36, [(0, vs 0 a), (1, vs 0 b), (9, vs 0 a), (10, vi a.length), (11, vi i)], []⟩)
  (fun i => a.length - i) (fun i => i ≤ a.length ∧ i ≤ b.length ∧ lexC (a.drop i) (b.drop i) = lexC a b) 0 ⟨by omega, by omega, rfl⟩ ?_ ?_
 ·simp only [go_sem]
 rintro i ⟨hi, hj, hd⟩
 by_cases h : i < a.length
 ·have hg := getv h
  have hw : IntKind.i64.wrap (i + 1) = i + 1 := wrap_in (by omega) (by omega)
  by_cases h2 : i < b.length
  ·have hg2 := getv h2
   have h3 : ¬ (b.length : Int) ≤ i := by omega
   rw [lexC_drop h h2] at hd
   simp only [go_sem, h, h2, hg, hg2, h3]
   refine CallU.free (con_cmpI a[i]! b[i]!) (by simp only [go_sem]) (by simp only [go_sem]) ?_
   rintro r bx rfl
   by_cases h4 : ordI a[i]! b[i]! = 0
   ·have h5 : (ordI a[i]! b[i]! != 0) = false := by rw [h4]; rfl
    rw [if_neg (fun h' => h' h4)] at hd
    simp only [go_sem, h5, hw]
    refine roundK.intro (i + 1) ⟨by omega, by omega, hd⟩ (by omega) ?_
    simp only [go_sem]
   ·have h5 : (ordI a[i]! b[i]! != 0) = true := bne_iff_ne.2 h4
    rw [if_pos h4] at hd
    rw [hd] at h5
    simp only [go_sem, h5, hd]
  ·have h3 : (b.length : Int) ≤ i := by omega
   have e : lexC a b = 1 := by
    rw [← hd, show b.drop i = [] from List.drop_of_length_le (by omega), List.drop_eq_getElem_cons h]; rfl
   simp only [go_sem, h, hg, h3, e]
 ·have hil : i = a.length := by omega
  subst hil
  rw [List.drop_length] at hd
  by_cases h2 : a.length < b.length
  ·have e : lexC a b = -1 := by rw [← hd, List.drop_eq_getElem_cons h2]; rfl
   simp only [go_sem, h, h2, e]
  ·have e : lexC a b = 0 := by rw [← hd, List.drop_of_length_le (by omega)]; rfl
   simp only [go_sem, h, h2, e]
def insS : Tr := .front 0 (.front 1 (.front 2 (.front 3 (.front 5 (.front 6 (.front 10 (.front 11 (.front 12 (.alt (.one 4 (.alt (.one 7 (.front 8 (.alt (.one 9 (.one 13 (.front 14 (.one 15 (.front 16 (.one 17 .done)))))) (.one 13 (.one 9 (.front 14 (.one 15 (.front 16 (.one 17 .done))))))))) (.one 13 (.one 7 (.front 8 (.one 9 (.front 14 (.one 15 (.front 16 (.one 17 .done)))))))))) (.alt (.one 7 (.front 8 (.alt (.one 4 (.alt (.one 9 (.one 13 (.front 14 (.one 15 (.front 16 (.one 17 .done)))))) (.one 13 (.one 9 (.front 14 (.one 15 (.front 16 (.one 17 .done)))))))) (.alt (.one 9 (.alt (.one 4 (.one 13 (.front 14 (.one 15 (.front 16 (.one 17 .done)))))) (.one 13 (.front 14 (.alt (.one 4 (.one 15 (.front 16 (.one 17 .done)))) (.one 15 (.one 4 (.front 16 (.one 17 .done))))))))) (.one 13 (.alt (.one 4 (.one 9 (.front 14 (.one 15 (.front 16 (.one 17 .done)))))) (.one 9 (.front 14 (.alt (.one 4 (.one 15 (.front 16 (.one 17 .done)))) (.one 15 (.one 4 (.front 16 (.one 17 .done))))))))))))) (.one 13 (.alt (.one 4 (.one 7 (.front 8 (.one 9 (.front 14 (.one 15 (.front 16 (.one 17 .done)))))))) (.one 7 (.front 8 (.alt (.one 4 (.one 9 (.front 14 (.one 15 (.front 16 (.one 17 .done)))))) (.one 9 (.front 14 (.alt (.one 4 (.one 15 (.front 16 (.one 17 .done)))) (.one 15 (.one 4 (.front 16 (.one 17 .done))))))))))))))))))))))
theorem conw_insertR (l : List (List Int)) (h0 : 0 < l.length) (hl : l.length ≤ 12) (hr : ∀ x ∈ l, x.length ≤ 1000000) :
  ConW Try.prog 76 [.sl 2 1 (l.map (vs 0)), vi 0, vi l.length, .fn 50 []] fun r ys => r = .tup [] ∧ ys = [.sl 2 1 ((ascF l).map (vs 0)), vi 0, vi l.length, .fn 50 []] := by
 refine ConW.intro Try.func76 rfl Try.ntmps76 Try.results76 (by kernel_rfl) (by simp) ?_
 have w1 : IntKind.i64.wrap 1 = 1 := wrap_in (by omega) (by omega)
 simp only [go_sem, w1]
 refine LoopK.intro (fun p : Nat × List (List Int) => ⟨53, [(0, .sl 2 1 (p.2.map (vs 0))), (1, vi 0), (2, vi l.length), (3, .fn 50 []), (8, vi p.1)], [[.sl 2 1 (p.2.map (vs 0)), vi 0, vi l.length, .fn 50 []]]⟩)
  (fun p => l.length - p.1) (fun p => 1 ≤ p.1 ∧ p.1 ≤ l.length ∧ p.2.Perm l ∧ ∀ i j, i < j → j < p.1 → lexC p.2[i]! p.2[j]! ≤ 0) (1, l) ⟨by show 1 ≤ 1; omega, by show 1 ≤ l.length; omega, List.Perm.refl _, fun i j h1 h2 => by simp only at h2; omega⟩ ?_ ?_
 ·simp only [go_sem]
 rintro ⟨i, D⟩ ⟨g1, g2, g3, g4⟩
 simp only at g1 g2 g3 g4
 have hDl := g3.length_eq
 by_cases hi : i < l.length
 case neg =>
  have hil : i = l.length := by omega
  have hasc : D = ascF l := asc_eq (asc_of fun p q h1 h2 => g4 p q h1 (by omega)) g3
  simp only [go_sem, hi, hasc]
 have hw : IntKind.i64.wrap (i + 1) = i + 1 := wrap_in (by omega) (by omega)
 simp only [go_sem, hi]
 refine LoopK.intro (fun p : Nat × List (List Int) => ⟨53, [(0, .sl 2 1 (p.2.map (vs 0))), (1, vi 0), (2, vi l.length), (3, .fn 50 []), (8, vi i), (9, vi p.1)], [[.sl 2 1 (p.2.map (vs 0)), vi 0, vi l.length, .fn 50 []]]⟩)
  (fun p => p.1) (fun p => SinkR l p.2 i p.1) (i, D) (SinkR.start g3 g4) ?_ ?_
 ·simp only [go_sem]
 rintro ⟨j, D2⟩ hS
 simp only at hS
 have hl2 := hS.len
 have hji := hS.ji
 simp only [go_sem]
 refine DrawK.walk 17 mixed (by kernel_rfl) ?_
 cases j with
 | zero =>
  have hz : ¬ (0 : Int) < ((0 : Nat) : Int) := by omega
  simp only [go_sem, hw]
  refine roundK.intro (i + 1, D2) ⟨by show 1 ≤ i + 1; omega, by show i + 1 ≤ l.length; omega, hS.perm, fun p q h1 h2 => hS.stop (.inl rfl) p q h1 (by simp only at h2; omega)⟩ (by show l.length - (i + 1) < l.length - i; omega) ?_
  simp only [go_sem]
 | succ k =>
  have h1 : k + 1 < D2.length := by omega
  have h2 : k < D2.length := by omega
  have hz : (0 : Int) < (k : Int) + 1 := by omega
  have hwk : IntKind.i64.wrap ((k : Int) + 1 - 1) = (k : Int) := by rw [wrap_in (by omega) (by omega)]; omega
  have ht : ((k : Int) + 1).toNat = k + 1 := by omega
  have hnn : (0 : Int) ≤ (k : Int) + 1 := by omega
  have hq : (k : Int) + 1 < (D2.length : Int) := by omega
  have q1 := getRw h1
  have q2 := getRw h2
  have hc := con_lexC D2[k + 1]! D2[k]! (hr _ (hS.perm.subset (mem_bang h1)))
  simp only [go_sem, hz, hwk, ht, hnn, hq, h2, q1, q2]
  refine CallY.mk hc (by simp only [go_sem]) (by simp only [go_sem]) (.inl (by simp only [go_sem])) ?_
  by_cases hneg : lexC D2[k + 1]! D2[k]! < 0
  ·have sl := swapR_len D2 k
   have hs1 := mod_row (r := D2[k]!) h1
   have hs2 := mod_row (l := D2.set (k + 1) D2[k]!) (r := D2[k + 1]!) (i := k) (by rw [List.length_set]; exact h2)
   have hsw : (D2.set (k + 1) D2[k]!).set k D2[k + 1]! = swapR D2 k := rfl
   rw [hsw] at hs2
   simp only [go_sem, hneg]
   refine DrawK.meet ⟨53, [(0, .sl 2 1 ((swapR D2 k).map (vs 0))), (1, vi 0), (2, vi l.length), (3, .fn 50 []), (8, vi i), (9, vi ((k : Int) + 1))], [[.sl 2 1 ((swapR D2 k).map (vs 0)), vi 0, vi l.length, .fn 50 []]]⟩ ?_ ?_
   ·refine DrawK.tree insS mixed (by kernel_rfl) ?_
    unfold insS
    repeat' (first | with_reducible apply andK_mk | exact trivial | simp only [go_sem, hwk, ht, hnn, hq, h2, q1, q2, hs1, hs2, List.length_set, List.length_map])
   ·simp only [go_sem, hwk]
    refine roundK.intro (k, swapR D2 k) (hS.step (by omega) hneg) (by show k < k + 1; omega) ?_
    simp only [go_sem]
  ·simp only [go_sem, hneg, hw]
   refine roundK.intro (i + 1, D2) ⟨by show 1 ≤ i + 1; omega, by show i + 1 ≤ l.length; omega, hS.perm, fun p q h1 h2 => hS.stop (.inr (by simp only [Nat.add_sub_cancel]; omega)) p q h1 (by simp only at h2; omega)⟩ (by show l.length - (i + 1) < l.length - i; omega) ?_
   simp only [go_sem]
def vq (x : Int) : AV := .sc (.int .u64 x)
theorem con_len64S (n : Nat) (hn : n ≤ 12) : Con Try.prog 85 [vq n] [] fun r _ => ∃ v, r = vi v := by
 refine Con.intro Try.func85 rfl Try.ntmps85 Try.results85 (by kernel_rfl) (by simp) 0 (by simp) ?_
 have h1 : ¬ (4294967296 : Int) ≤ n := by omega
 have h2 : ¬ (65536 : Int) ≤ n := by omega
 have h3 : ¬ (256 : Int) ≤ n := by omega
 simp only [go_sem, vq, h1, h2, h3]
 have h : n = 0 ∨ n = 1 ∨ n = 2 ∨ n = 3 ∨ n = 4 ∨ n = 5 ∨ n = 6 ∨ n = 7 ∨ n = 8 ∨ n = 9 ∨ n = 10 ∨ n = 11 ∨ n = 12 := by omega
 rcases h with rfl | rfl | rfl | rfl | rfl | rfl | rfl | rfl | rfl | rfl | rfl | rfl | rfl
 ·exact ⟨0, by kernel_rfl, by simp only [go_sem]; exact ⟨_, rfl⟩⟩
 ·exact ⟨1, by kernel_rfl, by simp only [go_sem]; exact ⟨_, rfl⟩⟩
 ·exact ⟨2, by kernel_rfl, by simp only [go_sem]; exact ⟨_, rfl⟩⟩
 ·exact ⟨2, by kernel_rfl, by simp only [go_sem]; exact ⟨_, rfl⟩⟩
 ·exact ⟨3, by kernel_rfl, by simp only [go_sem]; exact ⟨_, rfl⟩⟩
 ·exact ⟨3, by kernel_rfl, by simp only [go_sem]; exact ⟨_, rfl⟩⟩
 ·exact ⟨3, by kernel_rfl, by simp only [go_sem]; exact ⟨_, rfl⟩⟩
 ·exact ⟨3, by kernel_rfl, by simp only [go_sem]; exact ⟨_, rfl⟩⟩
 ·exact ⟨4, by kernel_rfl, by simp only [go_sem]; exact ⟨_, rfl⟩⟩
 ·exact ⟨4, by kernel_rfl, by simp only [go_sem]; exact ⟨_, rfl⟩⟩
 ·exact ⟨4, by kernel_rfl, by simp only [go_sem]; exact ⟨_, rfl⟩⟩
 ·exact ⟨4, by kernel_rfl, by simp only [go_sem]; exact ⟨_, rfl⟩⟩
 ·exact ⟨4, by kernel_rfl, by simp only [go_sem]; exact ⟨_, rfl⟩⟩
theorem con_lenS (n : Nat) (hn : n ≤ 12) : Con Try.prog 63 [vq n] [] fun r _ => ∃ v, r = vi v := by
 refine Con.intro Try.func63 rfl Try.ntmps63 Try.results63 (by kernel_rfl) (by simp) 0 (by simp) ?_
 have hc := con_len64S n hn
 simp only [vq] at hc
 simp only [go_sem, vq]
 refine CallU.free hc (by simp only [go_sem]) (by simp only [go_sem]) ?_
 rintro r bx ⟨v, rfl⟩
 simp only [go_sem]
 exact ⟨v, rfl⟩
theorem conw_pdqR (l : List (List Int)) (h0 : 0 < l.length) (hl : l.length ≤ 12) (hr : ∀ x ∈ l, x.length ≤ 1000000) (v : Int) :
  ConW Try.prog 62 [.sl 2 1 (l.map (vs 0)), vi 0, vi l.length, vi v, .fn 50 []] fun r ys => r = .tup [] ∧ ys = [.sl 2 1 ((ascF l).map (vs 0)), vi 0, vi l.length, vi v, .fn 50 []] := by
 refine ConW.intro Try.func62 rfl Try.ntmps62 Try.results62 (by kernel_rfl) (by simp) ?_
 simp only [go_sem]
 refine LoopK.intro (fun _ : Unit => ⟨148, [(0, .sl 2 1 (l.map (vs 0))), (1, vi 0), (2, vi l.length), (3, vi v), (4, .fn 50 [])], [[.sl 2 1 (l.map (vs 0)), vi 0, vi l.length, vi v, .fn 50 []]]⟩) (fun _ => 0) (fun _ => True) () trivial ?_ ?_
 ·simp only [go_sem]
 rintro ⟨⟩ _
 have hw : IntKind.i64.wrap ((l.length : Int) - 0) = l.length := by rw [wrap_in (by omega) (by omega)]; omega
 have h12 : (l.length : Int) ≤ 12 := by omega
 simp only [go_sem, hw, h12]
 refine CallU.back (conw_insertR l h0 hl hr) (by simp only [go_sem]) (by simp only [go_sem]) ?_
 rintro r ys ⟨rfl, rfl⟩
 simp only [go_sem]
 have := (asc_perm l).length_eq
 simpa [this] using h0
theorem conw_sortR (l : List (List Int)) (h0 : 0 < l.length) (hl : l.length ≤ 12) (hr : ∀ x ∈ l, x.length ≤ 1000000) :
  ConW Try.prog 49 [.sl 2 1 (l.map (vs 0)), .fn 50 []] fun r ys => r = .tup [] ∧ ys = [.sl 2 1 ((ascF l).map (vs 0)), .fn 50 []] := by
 refine ConW.intro Try.func49 rfl Try.ntmps49 Try.results49 (by kernel_rfl) (by simp) ?_
 have w2 : IntKind.u64.wrap (l.length : Int) = l.length := by rw [IntKind.wrap_u64]; omega
 have hc := con_lenS l.length hl
 simp only [vq] at hc
 simp only [go_sem, w2]
 refine CallU.free hc (by simp only [go_sem]) (by simp only [go_sem]) ?_
 rintro r bx ⟨v, rfl⟩
 simp only [go_sem]
 refine CallU.back (conw_pdqR l h0 hl hr v) (by simp only [go_sem]) (by simp only [go_sem]) ?_
 rintro r ys ⟨rfl, rfl⟩
 simp only [go_sem]
 have := (asc_perm l).length_eq
 simpa [this] using h0
theorem con_insertN : Con Try.prog 76 [.sl 0 1 [], vi 0, vi 0, .fn 50 []] [] fun r _ => r = .tup [] := by
 refine Con.intro Try.func76 rfl Try.ntmps76 Try.results76 (by kernel_rfl) (by simp) 0 (by simp) ?_
 have w1 : IntKind.i64.wrap 1 = 1 := wrap_in (by omega) (by omega)
 simp only [go_sem, w1]
 refine LoopK.intro (fun _ : Unit => ⟨53, [(2, vi 0), (8, vi 1)], []⟩) (fun _ => 0) (fun _ => True) () trivial ?_ ?_
 ·simp only [go_sem]
 rintro ⟨⟩ _
 simp only [go_sem]
theorem con_pdqN (v : Int) : Con Try.prog 62 [.sl 0 1 [], vi 0, vi 0, vi v, .fn 50 []] [] fun r _ => r = .tup [] := by
 refine Con.intro Try.func62 rfl Try.ntmps62 Try.results62 (by kernel_rfl) (by simp) 0 (by simp) ?_
 have w1 : IntKind.i64.wrap 0 = 0 := wrap_in (by omega) (by omega)
 simp only [go_sem]
 refine LoopK.intro (fun _ : Unit => ⟨148, [(0, .sl 0 1 []), (1, vi 0), (2, vi 0), (3, vi v), (4, .fn 50 [])], []⟩) (fun _ => 0) (fun _ => True) () trivial ?_ ?_
 ·simp only [go_sem]
 rintro ⟨⟩ _
 have h12 : ((0 : Int) ≤ 12) = True := eq_true (by omega)
 simp only [go_sem, w1, h12]
 refine CallU.free con_insertN (by simp only [go_sem]) (by simp only [go_sem]) ?_
 rintro r bx rfl
 simp only [go_sem]
theorem con_sortN : Con Try.prog 49 [.sl 0 1 [], .fn 50 []] [] fun r _ => r = .tup [] := by
 refine Con.intro Try.func49 rfl Try.ntmps49 Try.results49 (by kernel_rfl) (by simp) 0 (by simp) ?_
 have w2 : IntKind.u64.wrap 0 = 0 := by rw [IntKind.wrap_u64]; omega
 have hc := con_lenS 0 (by omega)
 simp only [vq] at hc
 simp only [go_sem, w2]
 refine CallU.free hc (by simp only [go_sem]) (by simp only [go_sem]) ?_
 rintro r bx ⟨v, rfl⟩
 simp only [go_sem]
 refine CallU.free (con_pdqN v) (by simp only [go_sem]) (by simp only [go_sem]) ?_
 rintro r bx rfl
 simp only [go_sem]
def ofS (c : List (List Int)) : List (List Int) := ascF (ofL c)
def ofG (c : List (List Int)) (s : Nat) : List (List Int) := (List.range s).filterMap (semB c)
theorem ofG_succ (c : List (List Int)) (s : Nat) : ofG c (s + 1) = ofG c s ++ (match semB c s with | some y => [y] | none => []) := by
 unfold ofG; rw [List.range_succ, List.filterMap_append]; cases h : semB c s <;> simp [h]
theorem ofG_len (c : List (List Int)) (s : Nat) : (ofG c s).length ≤ s := by
 unfold ofG; have := List.length_filterMap_le (semB c) (List.range s); rwa [List.length_range] at this
theorem ofG_one (c : List (List Int)) : ofG c 1 = [] := rfl
theorem ofG_all (c : List (List Int)) : ofG c (2 ^ c.length) = ofL c := rfl
theorem ofL_len {c : List (List Int)} (hc : ChangeM c) : ∀ y ∈ ofL c, y.length ≤ 1000000 := fun y hy => by
 obtain ⟨_, _, _, _, h, _⟩ := of_mem hc hy
 have := hc.six; omega
theorem shl_at : ∀ n : Nat, n ≤ 6 → IntKind.i64.wrap (1 * 2 ^ min (n : Int).toNat IntKind.i64.bits) = ((2 ^ n : Nat) : Int) := by decide +kernel
theorem con_of (c : List (List Int)) (hc : ChangeM c) (h12 : (ofL c).length ≤ 12) : Con Try.prog 31 [vm 0 c] [] fun r _ => r = vm 2 (ofS c) := by
 refine Con.intro Try.func31 rfl Try.ntmps31 Try.results31 (by kernel_rfl) (by simp) 0 (by simp) ?_
 have h6 := hc.six
 have hpow : 1 ≤ 2 ^ c.length ∧ 2 ^ c.length ≤ 64 := ⟨Nat.one_le_two_pow, show 2 ^ c.length ≤ 2 ^ 6 from Nat.pow_le_pow_right (by omega) h6⟩
 have hsh := shl_at c.length h6
 simp only [go_sem] at hsh
 obtain ⟨N, hN⟩ : ∃ N, N = 2 ^ c.length := ⟨_, rfl⟩
 have hall := ofG_all c
 rw [← hN] at hsh hpow hall
 simp only [go_sem]
 refine LoopK.intro (fun s : Nat => ⟨28, [(0, vm 0 c), (3, .sl 1600 1 ((ofG c s).map (vs 0))), (4, vi s)], []⟩)
  (fun s => N - s) (fun s => 1 ≤ s ∧ s ≤ N) 1 ⟨by omega, by omega⟩ ?_ ?_
 ·simp only [go_sem, ofG_one, List.map_nil]
 rintro s ⟨hs1, hs2⟩
 have hlen := ofG_len c s
 have hnext := ofG_succ c s
 by_cases h : s < N
 ·have hw : IntKind.i64.wrap (s + 1) = s + 1 := wrap_in (by omega) (by omega)
  have hsb : semB c s = semF c fun i => s.testBit i := by unfold semB; rw [if_neg (by omega)]
  simp only [go_sem, hsh, h]
  refine CallU.free (con_supported c hc s (by rw [← hN]; exact h) (by omega)) (by simp only [go_sem]) (by simp only [go_sem]) ?_
  rintro r bx rfl
  rw [← hsb]
  cases hb : semB c s with
  | none =>
   have e : ofG c (s + 1) = ofG c s := by rw [hnext, hb]; simp
   simp only [go_sem, supR, hw]
   refine roundK.intro (s + 1) ⟨by omega, by omega⟩ (by omega) ?_
   simp only [go_sem, e]
  | some y =>
   have e : ofG c (s + 1) = ofG c s ++ [y] := by rw [hnext, hb]
   have hr : roomFor ((ofG c s).length + 1) 24 := by simp only [roomFor]; omega
   simp only [go_sem, supR, hw, hr]
   refine roundK.intro (s + 1) ⟨by omega, by omega⟩ (by omega) ?_
   simp only [go_sem, e, List.map_append, List.map_cons, List.map_nil]
 have hsN : s = N := by omega
 subst hsN
 rw [hall]
 have hlt : ¬ s < s := by omega
 simp only [go_sem, hsh, hlt]
 by_cases h0 : ofL c = []
 ·have e : ofS c = [] := by unfold ofS; rw [h0]; exact (asc_perm []).eq_nil
  simp only [go_sem, h0, List.map_nil]
  refine CallU.flat con_sortN (by simp only [go_sem]) (by simp only [go_sem]) ?_
  rintro r bx rfl
  simp only [go_sem, e, List.map_nil]
 ·have h1 : 0 < (ofL c).length := List.length_pos_iff.2 h0
  refine CallU.back (conw_sortR (ofL c) h1 h12 (ofL_len hc)) (by simp only [go_sem]) (by simp only [go_sem]) ?_
  rintro r ys ⟨rfl, rfl⟩
  have := (asc_perm (ofL c)).length_eq
  simp only [go_sem, ofS]
  all_goals exact decide_eq_true h1
def ofR (c : List (List Int)) : AV := if schF c = 0 then .tup [vm 2 (ofS c), vi 0] else .tup [.nil, vi (schF c)]
theorem con_Of (c : List (List Int)) (hF : Fits c) (h12 : ChangeM c → (ofL c).length ≤ 12) : Con Try.prog 14 [vm 0 c] [] fun r _ => r = ofR c := by
 refine Con.intro Try.func14 rfl Try.ntmps14 Try.results14 (by kernel_rfl) (by simp) 0 (by simp) ?_
 simp only [go_sem]
 refine CallU.free (con_scheck c hF) (by simp only [go_sem]) (by simp only [go_sem]) ?_
 rintro r bx rfl
 by_cases h : schF c = 0
 ·have hc := sch_change h
  simp only [go_sem, h]
  refine CallU.free (con_of c hc (h12 hc)) (by simp only [go_sem]) (by simp only [go_sem]) ?_
  rintro r bx rfl
  simp only [go_sem, ofR, h]
 ·have hb : (schF c != 0) = true := bne_iff_ne.2 h
  simp only [go_sem, hb, ofR, h]
end Go.AM
namespace Go.AM
open Go Go.Proofs Go.RowKit
set_option maxRecDepth 100000
set_option maxHeartbeats 8000000
open Go.La (sum sum_congr)
theorem con_sdot (a b : List Int) (h : a.length ≤ b.length) (ha : a.length ≤ 140737488355328) : Con Try.prog 41 [vs 0 a, vs 0 b] [] fun r _ => r = vi (dotF a b) := by
 refine Con.intro Try.func41 rfl Try.ntmps41 Try.results41 (by kernel_rfl) (by simp) 0 (by simp) ?_
 simp only [go_sem]
 refine LoopK.intro (fun i : Nat => ⟨25, [(1, .sl 0 1 (b.map vi)), (5, .sc (.int .i64 (dotN a b i))), (8, .sl 0 1 (a.map vi)), (9, .sc (.int .i64 a.length)), (10, .sc (.int .i64 i))], []⟩)
  (fun i => a.length - i) (fun i => i ≤ a.length) 0 (by omega) ?_ ?_
 ·simp only [go_sem, dotN]
 ·intro i hi
  by_cases hia : i < a.length
  ·have hib : i < b.length := by omega
   have hga := getv hia
   have hgb := getv hib
   have hw : IntKind.i64.wrap (i + 1) = i + 1 := wrap_in (by omega) (by omega)
   simp only [go_sem, hia, hib, hga, hgb, hw]
   refine roundK.intro (i + 1) (by omega) (by omega) ?_
   simp only [go_sem, dotN, w64]
  ·have : i = a.length := by omega
   subst this
   simp only [go_sem, Nat.lt_irrefl, dotF]
def wBad (x : Int) : Bool := decide (x < 0) || decide (1099511627776 < x)
def nBad (x : Int) : Bool := decide (x < 0) || decide (1048576 < x)
theorem con_sweights1 (x : Int) : Con Try.prog 55 [vi x] [] fun r _ => r = .sc (.bool (wBad x)) := by
 refine Con.intro Try.func55 rfl Try.ntmps55 Try.results55 (by kernel_rfl) (by simp) 0 (by simp) ?_
 by_cases h : x < 0 <;> simp only [go_sem, h, wBad]
theorem con_snumbers1 (x : Int) : Con Try.prog 58 [vi x] [] fun r _ => r = .sc (.bool (nBad x)) := by
 refine Con.intro Try.func58 rfl Try.ntmps58 Try.results58 (by kernel_rfl) (by simp) 0 (by simp) ?_
 by_cases h : x < 0 <;> simp only [go_sem, h, nBad]
theorem con_sweights (l : List Int) (hl : l.length ≤ 9223372036854775806) : Con Try.prog 36 [vs 0 l] [] fun r _ => r = .sc (.bool (!l.any wBad)) := by
 refine Con.intro Try.func36 rfl Try.ntmps36 Try.results36 (by kernel_rfl) (by simp) 0 (by simp) ?_
 simp only [go_sem]
 refine CallU.free (con_containsFunc l 55 wBad con_sweights1 hl) (by simp only [go_sem]) (by simp only [go_sem]) ?_
 rintro r bx rfl
 simp only [go_sem]
theorem con_snumbers (l : List Int) (hl : l.length ≤ 9223372036854775806) : Con Try.prog 42 [vs 0 l] [] fun r _ => r = .sc (.bool (!l.any nBad)) := by
 refine Con.intro Try.func42 rfl Try.ntmps42 Try.results42 (by kernel_rfl) (by simp) 0 (by simp) ?_
 simp only [go_sem]
 refine CallU.free (con_containsFunc l 58 nBad con_snumbers1 hl) (by simp only [go_sem]) (by simp only [go_sem]) ?_
 rintro r bx rfl
 simp only [go_sem]
def mxN (l : List Int) : Nat → Int
 | 0 => l[0]!
 | k + 1 => max (mxN l k) l[k + 1]!
theorem con_smax (l : List Int) (h0 : 0 < l.length) (hl : l.length ≤ 1000000) : Con Try.prog 37 [vs 0 l] [] fun r _ => r = vi (mxN l (l.length - 1)) := by
 refine Con.intro Try.func37 rfl Try.ntmps37 Try.results37 (by kernel_rfl) (by simp) 0 (by simp) ?_
 have h1 : ¬ (l.length : Int) < 1 := by omega
 have hg := getv h0
 simp only [go_sem, h1, h0, hg]
 refine LoopK.intro (fun i : Nat => ⟨25, [(0, vs 0 l), (3, vi (mxN l i)), (4, vi ((i : Int) + 1))], []⟩)
  (fun i => l.length - i) (fun i => i < l.length) 0 h0 ?_ ?_
 ·simp only [go_sem, mxN]
  all_goals exact leV_int (by omega)
 intro i hi
 by_cases h : i + 1 < l.length
 ·have hg := getv h
  have hw : IntKind.i64.wrap ((i : Int) + 1 + 1) = ((i + 1 : Nat) : Int) + 1 := wrap_in (by omega) (by omega)
  have ht : ((i : Int) + 1).toNat = i + 1 := by omega
  have hn : (0 : Int) ≤ (i : Int) + 1 := by omega
  have hq : (i : Int) + 1 < (l.length : Int) := by omega
  simp only [go_sem, hq, ht, hn, hg, hw]
  refine roundK.intro (i + 1) h (by omega) ?_
  simp only [go_sem, mxN]
 ·have hq : ¬ (i : Int) + 1 < (l.length : Int) := by omega
  have e : l.length - 1 = i := by omega
  simp only [go_sem, hq, e]
theorem mx_zero {l : List Int} : ∀ k : Nat, (∀ i : Nat, i ≤ k → 0 ≤ l[i]!) → 0 ≤ mxN l k ∧ (mxN l k = 0 ↔ ∀ i : Nat, i ≤ k → l[i]! = 0)
  | 0, h => ⟨h 0 (by omega), ⟨fun e i hi => by have : i = 0 := by omega
                                               subst this; exact e, fun e => e 0 (by omega)⟩⟩
  | k + 1, h => by
    obtain ⟨h1, h2⟩ := mx_zero k fun i hi => h i (by omega)
    have h3 := h (k + 1) (by omega)
    rw [mxN]
    refine ⟨by omega, fun e i hi => ?_, fun e => ?_⟩
    · by_cases hk : i ≤ k
      · exact h2.1 (by omega) i hk
      · have : i = k + 1 := by omega
        subst this; omega
    · have := h2.2 fun i hi => e i (by omega)
      have := e (k + 1) (by omega)
      omega
def TellsRw (f : FuncId) (caps : List AV) (l : List (List Int)) (p : List Int → Bool) : Prop := ∀ x ∈ l, Con Try.prog f ([vs 0 x] ++ caps) [] fun r _ => r = .sc (.bool (p x))
theorem con_indexRows (l : List (List Int)) (f : FuncId) (caps : List AV) (p : List Int → Bool) (hc : mapTops (viewV []) caps = caps) (hf : TellsRw f caps l p) (hl : l.length ≤ 9223372036854775806) : Con Try.prog 57 [vm 0 l, .fn f caps] [] fun r _ => r = vi (findI p l) := by
 refine Con.intro Try.func57 rfl Try.ntmps57 Try.results57 (by kernel_rfl) (by simp) 0 (by simp) ?_
 simp only [go_sem]
 refine LoopK.intro (fun i : Nat => ⟨19, [(0, vm 0 l), (1, .fn f caps), (7, vi l.length), (8, vi i)], []⟩)
  (fun i => l.length - i) (fun i => i ≤ l.length ∧ ∀ j, j < i → p l[j]! = false) 0 ⟨by omega, fun j hj => by omega⟩ ?_ ?_
 ·simp only [go_sem]
 ·rintro i ⟨hi, hb⟩
  by_cases h : i < l.length
  ·have hg := getm h
   have hw : IntKind.i64.wrap (i + 1) = i + 1 := wrap_in (by omega) (by omega)
   simp only [go_sem, h, hg]
   refine CallU.look (hf l[i]! (mem_bang h)) (by simp only [go_sem]) (by simp only [go_sem, hc]) ?_
   rintro r bx rfl
   cases hp : p l[i]!
   ·simp only [go_sem, hw]
    refine roundK.intro (i + 1) ⟨by omega, fun j hj => ?_⟩ (by omega) ?_
    ·by_cases hji : j = i
     ·subst hji; exact hp
     ·exact hb j (by omega)
    ·simp only [go_sem]
   ·simp only [go_sem]
    rw [findI_stop h hb hp]
  ·simp only [go_sem, h]
   rw [findI_none (fun j hj => hb j (by omega))]
theorem con_containsRows (l : List (List Int)) (f : FuncId) (caps : List AV) (p : List Int → Bool) (hc : mapTops (viewV []) caps = caps) (hf : TellsRw f caps l p) (hl : l.length ≤ 9223372036854775806) : Con Try.prog 39 [vm 0 l, .fn f caps] [] fun r _ => r = .sc (.bool (l.any p)) := by
 refine Con.intro Try.func39 rfl Try.ntmps39 Try.results39 (by kernel_rfl) (by simp) 0 (by simp) ?_
 simp only [go_sem]
 refine CallU.look (con_indexRows l f caps p hc hf hl) (by simp only [go_sem]) (by simp only [go_sem]) ?_
 rintro r bx rfl
 simp only [go_sem, findI_ge]
theorem con_sholds1 (y x : List Int) (h : y.length ≤ x.length) (hy : y.length ≤ 140737488355328) : Con Try.prog 40 [vs 0 x, .fp [vs 0 y] 0] [] fun r _ => r = .sc (.bool (dotF y x != 0)) := by
 refine Con.intro Try.func40 rfl Try.ntmps40 Try.results40 (by kernel_rfl) (by simp) 0 (by simp) ?_
 simp only [go_sem]
 refine CallU.free (con_sdot y x h hy) (by simp only [go_sem]) (by simp only [go_sem]) ?_
 rintro r bx rfl
 simp only [go_sem]
def sflowF (c : List (List Int)) (y : List Int) : Bool := !(schF c != 0) && (!(y.length != c.length) && (!(y.any wBad) && (!(mxN y (y.length - 1) == 0) && !((transF c).any fun x => dotF y x != 0))))
theorem con_Holds (c : List (List Int)) (y : List Int) (hF : Fits c) (hy : y.length ≤ 140737488355328) : Con Try.prog 17 [vm 0 c, vs 0 y] [] fun r _ => r = .sc (.bool (sflowF c y)) := by
 refine Con.intro Try.func17 rfl Try.ntmps17 Try.results17 (by kernel_rfl) (by simp) 0 (by simp) ?_
 simp only [go_sem]
 refine CallU.free (con_scheck c hF) (by simp only [go_sem]) (by simp only [go_sem]) ?_
 rintro r bx rfl
 by_cases h : schF c = 0
 case neg =>
  have hb : (schF c != 0) = true := bne_iff_ne.2 h
  simp only [go_sem, hb, sflowF, Bool.not_true, Bool.false_and]
 have hc := sch_change h
 have hb : (schF c != 0) = false := by rw [h]; rfl
 by_cases h2 : y.length = c.length
 case neg =>
  have hb2 : (y.length != c.length) = true := bne_iff_ne.2 h2
  simp only [go_sem, hb, h2, hb2, sflowF, Bool.not_true, Bool.false_and, Bool.not_false, Bool.true_and]
 have hb2 : (y.length != c.length) = false := by rw [h2]; simp
 have h6 := hc.six
 have hp := hc.valid.pos
 simp only [go_sem, hb, h2]
 refine CallU.free (con_sweights y (by omega)) (by simp only [go_sem]) (by simp only [go_sem]) ?_
 rintro r bx rfl
 cases h3 : y.any wBad
 case true =>
  simp only [go_sem, hb, hb2, h3, sflowF, Bool.not_true, Bool.false_and, Bool.not_false, Bool.true_and]
 simp only [go_sem]
 refine CallU.free (con_smax y (by omega) (by omega)) (by simp only [go_sem]) (by simp only [go_sem]) ?_
 rintro r bx rfl
 cases h4 : (mxN y (y.length - 1) == 0)
 case true =>
  simp only [go_sem, hb, hb2, h3, h4, sflowF, Bool.not_true, Bool.false_and, Bool.not_false, Bool.true_and]
 simp only [go_sem, h4]
 have ht : transR c = (transF c, 0) := by unfold transR; rw [if_neg (by rw [valid_check hc.valid]; simp)]
 have hct := con_transpose c hF
 rw [ht] at hct
 refine CallU.free hct (by simp only [go_sem]) (by simp only [go_sem]) ?_
 rintro r bx rfl
 simp only [go_sem, vpairm]
 have hlen : (transF c).length = c[0]!.length := by simp [transF]
 have hcle := hc.valid.cle
 refine CallU.look (con_containsRows (transF c) 40 [.fp [vs 0 y] 0] (fun x => dotF y x != 0) (by simp only [go_sem]) (fun x hx => con_sholds1 y x (by
  obtain ⟨j, _, rfl⟩ := List.mem_map.1 hx
  rw [List.length_map]; omega) hy) (by omega)) (by simp only [go_sem]) (by simp only [go_sem]) ?_
 rintro r bx rfl
 simp only [go_sem, hb, hb2, h3, h4, sflowF, Bool.not_false, Bool.true_and]
end Go.AM
namespace Go.AM
open Go Go.Proofs Go.RowKit
set_option maxRecDepth 100000
set_option maxHeartbeats 8000000
open Go.La (sum sum_congr)
theorem ofS_row {c : List (List Int)} (hc : ChangeM c) : ∀ y ∈ ofS c, y.length = c.length := fun y hy => by
 obtain ⟨_, _, _, _, h, _⟩ := of_mem hc ((asc_perm (ofL c)).subset hy)
 exact h
theorem ofS_len {c : List (List Int)} : (ofS c).length = (ofL c).length := (asc_perm (ofL c)).length_eq
theorem con_sallows1 (y s v : List Int) (h1 : y.length ≤ s.length) (h2 : y.length ≤ v.length) (hy : y.length ≤ 140737488355328) : Con Try.prog 45 [vs 0 y, .fp [vs 0 s] 0, .fp [vs 0 v] 0] [] fun r _ => r = .sc (.bool (dotF y s != dotF y v)) := by
 refine Con.intro Try.func45 rfl Try.ntmps45 Try.results45 (by kernel_rfl) (by simp) 0 (by simp) ?_
 simp only [go_sem]
 refine DrawK.walk 8 mixed (by kernel_rfl) ?_
 simp only [go_sem]
 refine CallY.mk (con_sdot y s h1 hy) (by simp only [go_sem]) (by simp only [go_sem]) (.inl (by simp only [go_sem])) ?_
 simp only [go_sem]
 refine CallY.mk (con_sdot y v h2 hy) (by simp only [go_sem]) (by simp only [go_sem]) (.inl (by simp only [go_sem])) ?_
 simp only [go_sem]
def allowsR (c : List (List Int)) (s v : List Int) : Bool × Int :=
 if schF c ≠ 0 then (false, schF c) else if s.length ≠ c.length ∨ v.length ≠ c.length then (false, 3) else if s.any nBad = true ∨ v.any nBad = true then (false, 2)
 else (!(ofS c).any fun y => dotF y s != dotF y v, 0)
theorem con_Allows (c : List (List Int)) (s v : List Int) (hF : Fits c) (_hs : s.length ≤ 140737488355328) (_hv : v.length ≤ 140737488355328) (h12 : ChangeM c → (ofL c).length ≤ 12) :
  Con Try.prog 22 [vm 0 c, vs 0 s, vs 0 v] [] fun r _ => r = .tup [.sc (.bool (allowsR c s v).1), vi (allowsR c s v).2] := by
 refine Con.intro Try.func22 rfl Try.ntmps22 Try.results22 (by kernel_rfl) (by simp) 0 (by simp) ?_
 simp only [go_sem]
 refine CallU.free (con_scheck c hF) (by simp only [go_sem]) (by simp only [go_sem]) ?_
 rintro r bx rfl
 by_cases h : schF c = 0
 case neg =>
  have hb : (schF c != 0) = true := bne_iff_ne.2 h
  have e : allowsR c s v = (false, schF c) := by unfold allowsR; rw [if_pos h]
  simp only [go_sem, hb, e]
 have hc := sch_change h
 have h6 := hc.six
 have hb : (schF c != 0) = false := by rw [h]; rfl
 by_cases h1 : s.length = c.length
 case neg =>
  have e : allowsR c s v = (false, 3) := by unfold allowsR; rw [if_neg (fun h' => h' h), if_pos (.inl h1)]
  simp only [go_sem, hb, h1, e]
 by_cases h2 : v.length = c.length
 case neg =>
  have e : allowsR c s v = (false, 3) := by unfold allowsR; rw [if_neg (fun h' => h' h), if_pos (.inr h2)]
  simp only [go_sem, hb, h1, h2, e]
 simp only [go_sem, hb, h1, h2]
 refine CallU.free (con_snumbers s (by omega)) (by simp only [go_sem]) (by simp only [go_sem]) ?_
 rintro r bx rfl
 cases h3 : s.any nBad
 case true =>
  have e : allowsR c s v = (false, 2) := by unfold allowsR; rw [if_neg (fun h' => h' h), if_neg (by omega), if_pos (.inl h3)]
  simp only [go_sem, e]
 simp only [go_sem]
 refine CallU.free (con_snumbers v (by omega)) (by simp only [go_sem]) (by simp only [go_sem]) ?_
 rintro r bx rfl
 cases h4 : v.any nBad
 case true =>
  have e : allowsR c s v = (false, 2) := by unfold allowsR; rw [if_neg (fun h' => h' h), if_neg (by omega), if_pos (.inr h4)]
  simp only [go_sem, e]
 simp only [go_sem]
 refine CallU.free (con_of c hc (h12 hc)) (by simp only [go_sem]) (by simp only [go_sem]) ?_
 rintro r bx rfl
 have e : allowsR c s v = (!(ofS c).any fun y => dotF y s != dotF y v, 0) := by unfold allowsR; rw [if_neg (fun h' => h' h), if_neg (by omega), if_neg (by rw [h3, h4]; simp)]
 simp only [go_sem]
 have hl := h12 hc
 have hl2 := ofS_len (c := c)
 refine CallU.look (con_containsRows (ofS c) 45 [.fp [vs 0 s] 0, .fp [vs 0 v] 0] (fun y => dotF y s != dotF y v) (by simp only [go_sem]) (fun y hy => con_sallows1 y s v (by have := ofS_row hc y hy; omega) (by have := ofS_row hc y hy; omega) (by have := ofS_row hc y hy; omega)) (by omega)) (by simp only [go_sem]) (by simp only [go_sem]) ?_
 rintro r bx rfl
 simp only [go_sem, e]
def bndG (S : List (List Int)) (start : List Int) (p : Nat) : Nat → Int × Bool
 | 0 => (0, false)
 | k + 1 => if S[k]![p]! = 0 then bndG S start p k else
  if (bndG S start p k).2 = false ∨ w64 ((dotF S[k]! start).tdiv S[k]![p]!) < (bndG S start p k).1 then (w64 ((dotF S[k]! start).tdiv S[k]![p]!), true) else bndG S start p k
def boundR (c : List (List Int)) (start : List Int) (place : Int) : Int × Bool × Int :=
 if schF c ≠ 0 then (0, false, schF c) else if start.length ≠ c.length then (0, false, 3) else if start.any nBad = true ∨ place < 0 ∨ c.length ≤ place then (0, false, 2)
 else ((bndG (ofS c) start place.toNat (ofS c).length).1, (bndG (ofS c) start place.toNat (ofS c).length).2, 0)
theorem con_Bound (c : List (List Int)) (start : List Int) (place : Int) (hF : Fits c) (_hs : start.length ≤ 140737488355328) (h12 : ChangeM c → (ofL c).length ≤ 12) :
  Con Try.prog 20 [vm 0 c, vs 0 start, vi place] [] fun r _ => r = .tup [vi (boundR c start place).1, .sc (.bool (boundR c start place).2.1), vi (boundR c start place).2.2] := by
 refine Con.intro Try.func20 rfl Try.ntmps20 Try.results20 (by kernel_rfl) (by simp) 0 (by simp) ?_
 simp only [go_sem]
 refine CallU.free (con_scheck c hF) (by simp only [go_sem]) (by simp only [go_sem]) ?_
 rintro r bx rfl
 by_cases h : schF c = 0
 case neg =>
  have hb : (schF c != 0) = true := bne_iff_ne.2 h
  have e : boundR c start place = (0, false, schF c) := by unfold boundR; rw [if_pos h]
  simp only [go_sem, hb, e]
 have hc := sch_change h
 have h6 := hc.six
 have hb : (schF c != 0) = false := by rw [h]; rfl
 by_cases h1 : start.length = c.length
 case neg =>
  have e : boundR c start place = (0, false, 3) := by unfold boundR; rw [if_neg (fun h' => h' h), if_pos h1]
  simp only [go_sem, hb, h1, e]
 simp only [go_sem, hb, h1]
 refine CallU.free (con_snumbers start (by omega)) (by simp only [go_sem]) (by simp only [go_sem]) ?_
 rintro r bx rfl
 cases h3 : start.any nBad
 case true =>
  have e : boundR c start place = (0, false, 2) := by unfold boundR; rw [if_neg (fun h' => h' h), if_neg (by omega), if_pos (.inl h3)]
  simp only [go_sem, e]
 by_cases h4 : place < 0
 ·have e : boundR c start place = (0, false, 2) := by unfold boundR; rw [if_neg (fun h' => h' h), if_neg (by omega), if_pos (.inr (.inl h4))]
  simp only [go_sem, h4, e]
 by_cases h5 : (c.length : Int) ≤ place
 ·have e : boundR c start place = (0, false, 2) := by unfold boundR; rw [if_neg (fun h' => h' h), if_neg (by omega), if_pos (.inr (.inr h5))]
  simp only [go_sem, h4, h5, e]
 obtain ⟨p, hp⟩ : ∃ p : Nat, place = p := ⟨place.toNat, by omega⟩
 have e : boundR c start place = ((bndG (ofS c) start p (ofS c).length).1, (bndG (ofS c) start p (ofS c).length).2, 0) := by
  unfold boundR; rw [if_neg (fun h' => h' h), if_neg (by omega), if_neg (by rw [h3]; simp; omega), hp]; rfl
 rw [e]
 subst hp
 simp only [go_sem, h4, h5]
 refine CallU.free (con_of c hc (h12 hc)) (by simp only [go_sem]) (by simp only [go_sem]) ?_
 rintro r bx rfl
 have hl := h12 hc
 have hl2 := ofS_len (c := c)
 have hrow := ofS_row hc
 generalize ofS c = S at hl2 hrow
 simp only [go_sem]
 refine LoopK.intro (fun k : Nat => ⟨71, [(1, vs 0 start), (2, vi p), (10, vi (bndG S start p k).1), (11, vb (bndG S start p k).2), (41, .sl 2690 1 (S.map (vs 0))), (42, vi S.length), (43, vi k)], []⟩)
  (fun k => S.length - k) (fun k => k ≤ S.length) 0 (by omega) ?_ ?_
 ·simp only [go_sem, bndG]
 intro k hk
 by_cases hlt : k < S.length
 ·have hg := getm hlt
  have hw : IntKind.i64.wrap (k + 1) = k + 1 := wrap_in (by omega) (by omega)
  have hrl := hrow S[k]! (mem_bang hlt)
  have hpl : p < S[k]!.length := by omega
  have hgp := getv hpl
  have hn : bndG S start p (k + 1) = if S[k]![p]! = 0 then bndG S start p k else if (bndG S start p k).2 = false ∨ w64 ((dotF S[k]! start).tdiv S[k]![p]!) < (bndG S start p k).1 then (w64 ((dotF S[k]! start).tdiv S[k]![p]!), true) else bndG S start p k := rfl
  by_cases h0 : S[k]![p]! = 0
  ·have h0b : (S[k]![p]! == 0) = true := by rw [h0]; rfl
   rw [if_pos h0] at hn
   simp only [go_sem, hlt, hg, hpl, hgp, h0b, hw]
   refine roundK.intro (k + 1) (by omega) (by omega) ?_
   simp only [go_sem, hn]
  ·have h0b : (S[k]![p]! == 0) = false := beq_eq_false_iff_ne.2 h0
   rw [if_neg h0] at hn
   simp only [go_sem, hlt, hg, hpl, hgp, h0b]
   refine DrawK.walk 9 mixed (by kernel_rfl) ?_
   simp only [go_sem]
   refine CallY.mk (con_sdot S[k]! start (by omega) (by omega)) (by simp only [go_sem]) (by simp only [go_sem]) (.inl (by simp only [go_sem])) ?_
   simp only [go_sem, hpl, hgp]
   refine ⟨h0, ?_⟩
   cases hf : (bndG S start p k).2
   ·have hn : bndG S start p (k + 1) = (w64 ((dotF S[k]! start).tdiv S[k]![p]!), true) := by rw [hn, if_pos (.inl hf)]
    simp only [go_sem, hw]
    refine roundK.intro (k + 1) (by omega) (by omega) ?_
    simp only [go_sem, hn, w64]
   ·by_cases hlt2 : w64 ((dotF S[k]! start).tdiv S[k]![p]!) < (bndG S start p k).1
    ·have hn : bndG S start p (k + 1) = (w64 ((dotF S[k]! start).tdiv S[k]![p]!), true) := by rw [hn, if_pos (.inr hlt2)]
     simp only [w64] at hlt2
     simp only [go_sem, hlt2, hw]
     refine roundK.intro (k + 1) (by omega) (by omega) ?_
     simp only [go_sem, hn, w64]
    ·have hn : bndG S start p (k + 1) = bndG S start p k := by rw [hn, if_neg (fun h' => h'.elim (fun h'' => by rw [hf] at h''; cases h'') hlt2)]
     simp only [w64] at hlt2
     simp only [go_sem, hlt2, hw]
     refine roundK.intro (k + 1) (by omega) (by omega) ?_
     simp only [go_sem, hn, hf]
 ·have hkl : k = S.length := by omega
  subst hkl
  simp only [go_sem, hlt]
end Go.AM
namespace Go.AM
open Go Go.Proofs Go.RowKit
end Go.AM
namespace Go.AM
end Go.AM
namespace Go.AM
open Go Go.Proofs Go.RowKit
set_option maxRecDepth 100000
set_option maxHeartbeats 8000000
def ordL (a b : Int) : Int := if a < b then -1 else if b < a then 1 else 0
def lexI : List Int → List Int → Int
 | x :: xs, y :: ys => if x = y then lexI xs ys else ordL x y
 | _, _ => 0
def cmpI (a b : List Int) : Int := if a.length = b.length then lexI a b else ordL a.length b.length
theorem ord_zero {a b : Int} : ordL a b = 0 ↔ a = b := by unfold ordL; split <;> (try split) <;> omega
theorem lex_zero : ∀ {a b : List Int}, a.length = b.length → (lexI a b = 0 ↔ a = b)
 | [], [], _ => by simp [lexI]
 | x :: xs, y :: ys, h => by
  unfold lexI
  have hl : xs.length = ys.length := by simpa using h
  split
  ·rename_i e; rw [lex_zero hl, e]; simp
  ·rename_i e; rw [ord_zero]; simp [e]
 | [], _ :: _, h => by simp at h
 | _ :: _, [], h => by simp at h
theorem cmp_zero {a b : List Int} : cmpI a b = 0 ↔ a = b := by
 unfold cmpI
 split
 ·rename_i h; exact lex_zero h
 ·rename_i h
  rw [ord_zero]
  exact ⟨fun e => by omega, fun e => by rw [e]⟩
theorem lex_drop {a b : List Int} (hl : a.length = b.length) : ∀ i, i ≤ a.length → (∀ j, j < i → a[j]! = b[j]!) → lexI a b = lexI (a.drop i) (b.drop i)
 | 0, _, _ => rfl
 | i + 1, hi, h => by
  rw [lex_drop hl i (by omega) fun j hj => h j (by omega)]
  have h1 : i < a.length := by omega
  have h2 : i < b.length := by omega
  have e := h i (by omega)
  rw [getElem!_pos a i h1, getElem!_pos b i h2] at e
  rw [List.drop_eq_getElem_cons h1, List.drop_eq_getElem_cons h2, lexI, if_pos e]
theorem lex_stop {a b : List Int} (hl : a.length = b.length) {i : Nat} (hi : i < a.length) (h : ∀ j, j < i → a[j]! = b[j]!) (hn : a[i]! ≠ b[i]!) : lexI a b = ordL a[i]! b[i]! := by
 have h2 : i < b.length := by omega
 rw [lex_drop hl i (by omega) h]
 rw [getElem!_pos a i hi, getElem!_pos b i h2] at *
 rw [List.drop_eq_getElem_cons hi, List.drop_eq_getElem_cons h2, lexI, if_neg hn]
theorem lex_same {a b : List Int} (hl : a.length = b.length) (h : ∀ j, j < a.length → a[j]! = b[j]!) : lexI a b = 0 := by
 rw [lex_drop hl a.length (Nat.le_refl _) h, List.drop_eq_nil_of_le (Nat.le_refl _)]
 unfold lexI; rfl
theorem con_rorder (a b : Int) : Con Try.prog 46 [vi a, vi b] [] fun r _ => r = vi (ordL a b) := by
 refine Con.intro Try.func46 rfl Try.ntmps46 Try.results46 (by kernel_rfl) (by simp) 0 (by simp) ?_
 unfold ordL
 by_cases h1 : a < b
 ·simp only [go_sem, h1, if_true]
 ·by_cases h2 : b < a
  ·simp only [go_sem, h1, h2, if_true, if_false]
  ·simp only [go_sem, h1, h2, if_true, if_false]
theorem con_rcompareI (a b : List Int) (ha : a.length ≤ 1000000) : Con Try.prog 26 [vs 0 a, vs 0 b] [] fun r _ => r = vi (cmpI a b) := by
 refine Con.intro Try.func26 rfl Try.ntmps26 Try.results26 (by kernel_rfl) (by simp) 0 (by simp) ?_
 by_cases hl : a.length = b.length
 case neg =>
  have hl' : ((a.length : Int) != (b.length : Int)) = true := bne_iff_ne.2 (by omega)
  have e : cmpI a b = ordL a.length b.length := by unfold cmpI; rw [if_neg hl]
  simp only [go_sem, hl', List.length_map]
  refine CallU.free (con_rorder a.length b.length) (by simp only [go_sem]) (by simp only [go_sem]) ?_
  rintro x bx rfl
  simp only [go_sem, e]
 have e : cmpI a b = lexI a b := by unfold cmpI; rw [if_pos hl]
 have hl' : ((a.length : Int) != (b.length : Int)) = false := by rw [hl]; simp
 rw [e]
 simp only [go_sem, hl', List.length_map]
 refine LoopK.intro (fun i : Nat => ⟨40, [(0, vs 0 a), (1, vs 0 b), (5, vi i)], []⟩)
  (fun i => a.length - i) (fun i => i ≤ a.length ∧ ∀ j, j < i → a[j]! = b[j]!) 0 ⟨by omega, fun j hj => by omega⟩ ?_ ?_
 ·simp only [go_sem]
  all_goals exact leV_refl _
 rintro i ⟨hi, hb⟩
 by_cases h : i < a.length
 ·have h2 : i < b.length := by omega
  have g1 := getv h
  have g2 := getv h2
  have hw : IntKind.i64.wrap (i + 1) = i + 1 := wrap_in (by omega) (by omega)
  simp only [go_sem, h]
  refine DrawK.walk 9 mixed (by kernel_rfl) ?_
  by_cases hp : a[i]! = b[i]!
  ·have hp' : (a[i]! != b[i]!) = false := by rw [hp]; simp
   simp only [go_sem, h, h2, g1, g2, hp', hw]
   refine roundK.intro (i + 1) ⟨by omega, fun j hj => ?_⟩ (by omega) ?_
   ·by_cases hji : j = i
    ·subst hji; exact hp
    ·exact hb j (by omega)
   ·simp only [go_sem]
  ·have hp' : (a[i]! != b[i]!) = true := bne_iff_ne.2 hp
   have e2 := lex_stop hl h hb hp
   simp only [go_sem, h, h2, g1, g2, hp']
   refine DrawK.walk 10 mixed (by kernel_rfl) ?_
   simp only [go_sem, h, h2, g1, g2]
   refine CallY.mk (con_rorder a[i]! b[i]!) (by simp only [go_sem]) (by simp only [go_sem]) (.inl (by simp only [go_sem])) ?_
   simp only [go_sem, e2]
 ·have e2 := lex_same hl fun j hj => hb j (by omega)
  simp only [go_sem, h, e2]
theorem con_rsameI (a b : List Int) (ha : a.length ≤ 1000000) : Con Try.prog 35 [vs 0 a, vs 0 b] [] fun r _ => r = vb (a == b) := by
 refine Con.intro Try.func35 rfl Try.ntmps35 Try.results35 (by kernel_rfl) (by simp) 0 (by simp) ?_
 simp only [go_sem]
 refine CallU.free (con_rcompareI a b ha) (by simp only [go_sem]) (by simp only [go_sem]) ?_
 rintro x bx rfl
 have e : (cmpI a b == 0) = (a == b) := by rw [Bool.eq_iff_iff, beq_iff_eq, beq_iff_eq]; exact cmp_zero
 simp only [go_sem, e]
end Go.AM
namespace Go.AM
open Go Go.Proofs Go.RowKit
open Go.La (sum sum_congr)
theorem anyS_false {α : Type} {p : α → Bool} {l : List α} (h : ∀ x ∈ l, p x = false) : l.any p = false := by
 rw [List.any_eq_false]; intro x hx; rw [h x hx]; simp
theorem anyS_inv {α : Type} {p : α → Bool} {l : List α} (h : l.any p = false) : ∀ x ∈ l, p x = false := fun x hx => by
 rw [List.any_eq_false] at h; have := h x hx; simpa using this
theorem col_at {c : List (List Int)} {r i : Nat} (h : i < c.length) : (c.map fun x => x[r]!)[i]! = c[i]![r]! := by
 rw [getElem!_pos _ i (by simpa using h), List.getElem_map, getElem!_pos c i h]
theorem lexI_eq : ∀ {a b : List Int}, a.length = b.length → lexI a b = lexC a b
 | [], [], _ => rfl
 | [], _ :: _, h => by simp at h
 | _ :: _, [], h => by simp at h
 | x :: xs, y :: ys, h => by
  rw [lexI, lexC]
  by_cases e : x = y
  ·rw [if_pos e, if_neg (by rw [ordI_zero.2 e]; simp), lexI_eq (by simpa using h)]
  ·rw [if_neg e, if_pos (fun h' => e (ordI_zero.1 h'))]; rfl
theorem cmpI_eq {a b : List Int} (h : a.length = b.length) : cmpI a b = lexC a b := by unfold cmpI; rw [if_pos h, lexI_eq h]
end Go.AM
namespace Go.AM
open Go Go.Proofs Go.RowKit
set_option maxRecDepth 100000
set_option maxHeartbeats 8000000
theorem con_rmxCheck (m : List (List Int)) (hm : Fits m) : Con Try.prog 27 [vm 0 m] [] fun r _ => r = vi (mxCheckF m) := by
 refine Con.intro Try.func27 rfl Try.ntmps27 Try.results27 (by kernel_rfl) (by simp) 0 (by simp) ?_
 by_cases h1 : m.length < 1
 ·simp only [go_sem, h1, mxCheckF, true_or]
 by_cases h2 : 12 < m.length
 ·simp only [go_sem, h1, h2, mxCheckF, or_true]
 have hg0 := getm (l := m) (i := 0) (by omega)
 have hp0 : 0 < m.length := by omega
 by_cases h3 : m[0]!.length < 1
 ·simp only [go_sem, h1, h2, h3, hg0, hp0, mxCheckF, true_or, or_false]
 by_cases h4 : 12 < m[0]!.length
 ·simp only [go_sem, h1, h2, h3, h4, hg0, hp0, mxCheckF, true_or, or_false, or_true]
 have e5 : mxCheckF m = if 6 < min m[0]!.length m.length then (10 : Int) else if m.any (badRow m[0]!.length) then 10 else 0 := by
  unfold mxCheckF
  rw [if_neg (by omega)]
  by_cases h : 6 < min m[0]!.length m.length
  ·rw [if_pos (.inr (.inr h)), if_pos h]
  ·rw [if_neg (by omega), if_neg h]
 rw [e5]
 apply share3 (T := fun τ => ¬ 6 < min m[0]!.length m.length ∧ τ.le ⟨82, [(0, vm 0 m), (3, vi (0 : Nat))], []⟩)
 case h =>
  intro hsh
  by_cases h5 : 6 < m.length
  ·by_cases h6 : 6 < m[0]!.length
   ·have h7 : 6 < min m[0]!.length m.length := by omega
    simp only [go_sem, h1, h2, h3, h4, h5, h6, h7, hg0, hp0]
   ·simp only [go_sem, h1, h2, h3, h4, h5, h6, hg0, hp0]
    refine hsh _ ⟨by omega, ?_⟩
    simp only [go_sem]
  ·simp only [go_sem, h1, h2, h3, h4, h5, hg0, hp0]
   refine hsh _ ⟨by omega, ?_⟩
   simp only [go_sem]
 rintro τ ⟨h5, hτ⟩
 rw [if_neg h5]
 refine LoopK.intro (fun i : Nat => ⟨82, [(0, vm 0 m), (3, vi i)], []⟩)
  (fun i => m.length - i) (fun i => i ≤ m.length ∧ ∀ j, j < i → badRow m[0]!.length m[j]! = false) 0 ⟨by omega, fun j hj => by omega⟩ hτ ?_
 rintro i ⟨hi, hb⟩
 by_cases h : i < m.length
 case neg =>
  have e : m.any (badRow m[0]!.length) = false := mxAnyNone fun j hj => hb j (by omega)
  simp only [go_sem, h, e]
 have hg := getm h
 have hw : IntKind.i64.wrap (i + 1) = i + 1 := wrap_in (by omega) (by omega)
 have hr := hm.at h
 simp only [go_sem, h]
 refine DrawK.walk 10 mixed (by kernel_rfl) ?_
 by_cases hn : m[i]!.length = m[0]!.length
 case neg =>
  have hn' : (m[i]!.length != m[0]!.length) = true := bne_iff_ne.2 hn
  have e : m.any (badRow m[0]!.length) = true := any_stop h (by unfold badRow; rw [decide_eq_true hn, Bool.true_or])
  have hni : ((m[i]!.length : Int) != (m[0]!.length : Int)) = true := bne_iff_ne.2 (by omega)
  simp only [go_sem, h, hg, hg0, hp0, hni, e]
 have hni : ((m[i]!.length : Int) != (m[0]!.length : Int)) = false := by rw [hn]; simp
 simp only [go_sem, h, hg, hg0, hp0, hni]
 refine LoopK.intro (fun k : Nat => ⟨82, [(0, vm 0 m), (3, vi i), (4, vi k)], []⟩)
  (fun k => m[i]!.length - k) (fun k => k ≤ m[i]!.length ∧ ∀ j, j < k → lawBad m[i]![j]! = false) 0 ⟨by omega, fun j hj => by omega⟩ ?_ ?_
 ·simp only [go_sem]
 rintro k ⟨hk, hbk⟩
 by_cases h6 : k < m[i]!.length
 ·have hgk := getv h6
  have hwk : IntKind.i64.wrap (k + 1) = k + 1 := wrap_in (by omega) (by omega)
  have hlb : lawBad m[i]![k]! = (decide (m[i]![k]! < -16) || decide (16 < m[i]![k]!)) := rfl
  have hstop : lawBad m[i]![k]! = true → m.any (badRow m[0]!.length) = true := fun hp => any_stop h (by unfold badRow; rw [any_stop h6 hp, Bool.or_true])
  by_cases h7 : m[i]![k]! < -16
  ·have e := hstop (by rw [hlb, decide_eq_true h7, Bool.true_or])
   simp only [go_sem, h, hg, h6, hgk, h7, e]
  by_cases h8 : 16 < m[i]![k]!
  ·have e := hstop (by rw [hlb, decide_eq_true h8, Bool.or_true])
   simp only [go_sem, h, hg, h6, hgk, h7, h8, e]
  ·simp only [go_sem, h, hg, h6, hgk, h7, h8, hwk]
   refine roundK.intro (k + 1) ⟨by omega, fun j hj => ?_⟩ (by omega) ?_
   ·by_cases hjk : j = k
    ·subst hjk; rw [hlb, decide_eq_false h7, decide_eq_false h8]; rfl
    ·exact hbk j (by omega)
   ·simp only [go_sem]
 ·have e : badRow m[0]!.length m[i]! = false := by
   unfold badRow
   rw [decide_eq_false (fun h' => h' hn), Bool.false_or]
   exact mxAnyNone fun j hj => hbk j (by omega)
  simp only [go_sem, h, hg, h6, hw]
  refine roundK.intro (i + 1) ⟨by omega, fun j hj => ?_⟩ (by omega) ?_
  ·by_cases hji : j = i
   ·subst hji; exact e
   ·exact hb j (by omega)
  ·simp only [go_sem]
end Go.AM
