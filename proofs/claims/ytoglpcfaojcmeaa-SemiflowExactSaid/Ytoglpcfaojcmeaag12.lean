/- MxWD MxWE MxWK MxLa MxLb MxLc MxLd MxKern MxSemi MxSemi2 MxSemi3 MxSemi4 -/
import Derived.Test.Ytoglpcfaojcmeaag11
namespace Go.AM
open Go Go.Proofs Go.RowKit
set_option maxRecDepth 100000
set_option maxHeartbeats 8000000
theorem con_divisor (a b : Nat) : Con Try.prog 91 [vi a, vi b] [] fun r _ => r = vi (Nat.gcd a b) := by
 refine Con.intro Try.func91 rfl Try.ntmps91 Try.results91 (by kernel_rfl) (by simp) 0 (by simp) ?_
 simp only [go_sem]
 refine LoopK.intro (fun p : Nat × Nat => ⟨12, [(0, vi p.1), (1, vi p.2)], []⟩) (fun p => p.2) (fun p => Nat.gcd p.1 p.2 = Nat.gcd a b) (a, b) rfl ?_ ?_
 ·simp only [go_sem]
 rintro ⟨x, y⟩ hxy
 simp only at hxy
 by_cases h : 0 < y
 ·have hne : (y : Int) ≠ 0 := by omega
  have hm : Int.tmod (x : Int) (y : Int) = ((x % y : Nat) : Int) := by rw [Int.tmod_eq_emod_of_nonneg (by omega)]; rfl
  simp only [go_sem, h]
  refine DrawK.walk 5 mixed (by kernel_rfl) ?_
  simp only [go_sem, hm]
  refine ⟨hne, roundK.intro (y, x % y) ?_ ?_ ?_⟩
  ·simp only; rw [← hxy, Nat.gcd_comm x y, Nat.gcd_rec y x]; exact Nat.gcd_comm _ _
  ·exact Nat.mod_lt _ h
  ·simp only [go_sem]
 ·have : y = 0 := by omega
  subst this
  simp only [go_sem]
  rw [← hxy, Nat.gcd_zero_right]
def gcdN (l : List Int) : Nat → Nat
 | 0 => 0
 | k + 1 => Nat.gcd (gcdN l k) l[k]!.natAbs
def gcdF (l : List Int) : Nat := gcdN l l.length
def primF (l : List Int) : List Int := l.map fun x => x.tdiv (gcdF l)
theorem gcdN_dvd {l : List Int} : ∀ k i, i < k → (gcdN l k) ∣ l[i]!.natAbs
 | 0, i, h => by omega
 | k + 1, i, h => by
  by_cases hi : i = k
  ·subst hi; exact Nat.gcd_dvd_right _ _
  ·exact Nat.dvd_trans (Nat.gcd_dvd_left _ _) (gcdN_dvd k i (by omega))
theorem gcdF_pos {l : List Int} {x : Int} (h : x ∈ l) (hx : x ≠ 0) : 0 < gcdF l := by
 obtain ⟨i, hi⟩ := List.getElem?_of_mem h
 have hil := (List.getElem?_eq_some_iff.1 hi).1
 have := gcdN_dvd (l := l) l.length i hil
 have e : l[i]! = x := by simp [hi]
 rw [e] at this
 exact Nat.pos_of_dvd_of_pos this (by omega)
def divTo (l : List Int) (g : Int) (k : Nat) : List Int := (l.take k).map (fun x => x.tdiv g) ++ l.drop k
theorem divTo_zero (l : List Int) (g : Int) : divTo l g 0 = l := by simp [divTo]
theorem divTo_len (l : List Int) (g : Int) (k : Nat) : (divTo l g k).length = l.length := by simp [divTo]; omega
theorem divTo_end (l : List Int) (g : Int) : divTo l g l.length = l.map fun x => x.tdiv g := by simp [divTo]
theorem divTo_at {l : List Int} {g : Int} {k : Nat} (h : k < l.length) : (divTo l g k)[k]! = l[k]! := by
 simp only [divTo]
 rw [getElem!_pos _ _ (by simp; omega), List.getElem_append_right (by simp; omega)]
 simp [h, Nat.min_eq_left (Nat.le_of_lt h)]
theorem divTo_set {l : List Int} {g : Int} {k : Nat} (h : k < l.length) : (divTo l g k).set k (l[k]!.tdiv g) = divTo l g (k + 1) := by
 simp only [divTo]
 have hmin : min k l.length = k := by omega
 have e : l.take (k + 1) = l.take k ++ [l[k]!] := by rw [List.take_add_one, List.getElem?_eq_getElem h]; simp [h]
 rw [e, List.map_append, List.set_append_right _ _ (by simp; omega), List.length_map, List.length_take, hmin, Nat.sub_self, List.drop_eq_getElem_cons h, List.set_cons_zero, List.append_assoc]
 rfl
theorem con_primitive (l : List Int) (hl : l.length ≤ 1000000) (hb : ∀ x ∈ l, -4611686018427387904 ≤ x ∧ x ≤ 4611686018427387904) (hg : 0 < gcdF l) : Con Try.prog 75 [vs 0 l] [] fun r _ => r = vs 2 (primF l) := by
 refine Con.intro Try.func75 rfl Try.ntmps75 Try.results75 (by kernel_rfl) (by simp) 0 (by simp) ?_
 simp only [go_sem]
 refine LoopK.intro (fun k : Nat => ⟨35, [(0, vs 0 l), (3, vi (gcdN l k)), (8, vs 0 l), (9, vi l.length), (10, vi k)], []⟩) (fun k => l.length - k) (fun k => k ≤ l.length) 0 (by omega) ?_ ?_
 ·simp only [go_sem, gcdN]
 intro k hk
 by_cases h : k < l.length
 ·have hgk := getv h
  have hwk : IntKind.i64.wrap (k + 1) = k + 1 := wrap_in (by omega) (by omega)
  have hbk := hb l[k]! (mem_at h)
  have ha : max l[k]! (w64 (-l[k]!)) = (l[k]!.natAbs : Int) := by
   have : w64 (-l[k]!) = -l[k]! := wrap_in (by omega) (by omega)
   rw [this]; omega
  simp only [go_sem, h, hgk]
  refine CallU.free (con_amount l[k]!) (by simp only [go_sem]) (by simp only [go_sem]) ?_
  rintro r bx rfl
  simp only [go_sem, ha]
  refine CallU.free (con_divisor (gcdN l k) l[k]!.natAbs) (by simp only [go_sem]) (by simp only [go_sem]) ?_
  rintro r bx rfl
  simp only [go_sem, hwk]
  refine roundK.intro (k + 1) (by omega) (by omega) ?_
  simp only [go_sem, gcdN]
 have hkl : k = l.length := by omega
 simp only [go_sem, h]
 refine CallU.free (con_mxClone l (by omega)) (by simp only [go_sem]) (by simp only [go_sem]) ?_
 rintro r bx rfl
 subst hkl
 have hgc : gcdN l l.length = gcdF l := rfl
 simp only [go_sem, hgc]
 refine LoopK.intro (fun k : Nat => ⟨35, [(3, vi (gcdF l)), (6, vs 1346 (divTo l (gcdF l) k)), (22, vi l.length), (23, vi k)], []⟩) (fun k => l.length - k) (fun k => k ≤ l.length) 0 (by omega) ?_ ?_
 ·simp only [go_sem, divTo_zero]
 intro k hk
 by_cases h2 : k < l.length
 ·have hgk := getv (l := divTo l (gcdF l) k) (i := k) (by rw [divTo_len]; exact h2)
  rw [divTo_at h2] at hgk
  have hwk : IntKind.i64.wrap (k + 1) = k + 1 := wrap_in (by omega) (by omega)
  have hbk := hb l[k]! (mem_at h2)
  have hne : (gcdF l : Int) ≠ 0 := by omega
  have hq : IntKind.i64.wrap (l[k]!.tdiv (gcdF l)) = l[k]!.tdiv (gcdF l) := by
   have h1 : (l[k]!.tdiv (gcdF l)).natAbs ≤ l[k]!.natAbs := by rw [Int.natAbs_tdiv]; exact Nat.div_le_self _ _
   exact wrap_in (by omega) (by omega)
  simp only [go_sem, h2, hgk, divTo_len, hq]
  refine ⟨hne, ?_⟩
  simp only [go_sem, modify_vi, divTo_set h2, hwk]
  refine roundK.intro (k + 1) (by omega) (by omega) ?_
  simp only [go_sem]
 ·have hkl : k = l.length := by omega
  subst hkl
  simp only [go_sem, h2, divTo_end, primF]
def amtF (x : Int) : Int := max x (w64 (-x))
def kvGo (m : List (List Int)) (rows cols : List Int) (all : Int) (f n : Nat) : Nat → List Int
 | 0 => (List.replicate n 0).set f (amtF all)
 | k + 1 => (kvGo m rows cols all f n k).set cols[k]!.toNat (if all < 0 then w64 (0 - w64 (0 - detF m rows (cols.set k f))) else w64 (0 - detF m rows (cols.set k f)))
theorem kvGo_len (m : List (List Int)) (rows cols : List Int) (all : Int) (f n : Nat) : ∀ k, (kvGo m rows cols all f n k).length = n
 | 0 => by simp [kvGo]
 | k + 1 => by simp [kvGo, kvGo_len m rows cols all f n k]
def kvF (m : List (List Int)) (rows cols : List Int) (all : Int) (f n : Nat) : List Int := kvGo m rows cols all f n cols.length
def kernGo (m : List (List Int)) (rows cols : List Int) (all : Int) (n : Nat) : Nat → List (List Int)
 | 0 => []
 | f + 1 => if (cols.any fun x => (f : Int) == x) = true then kernGo m rows cols all n f else kernGo m rows cols all n f ++ [primF (kvF m rows cols all f n)]
def kernF (m : List (List Int)) : List (List Int) × Int :=
 if mxCheckF m = 0 then (kernGo m (leadF m).1 (leadF m).2 (detF m (leadF m).1 (leadF m).2) m[0]!.length m[0]!.length, 0) else ([], mxCheckF m)
def vpairm (r : List (List Int) × Int) : AV := .tup [if r.2 = 0 then vm 2 r.1 else .nil, vi r.2]
theorem Valid.slight {m : List (List Int)} (h : Valid m) : Slight m := fun row hr x hx => (h.row row hr).2 x hx
theorem set_at {l : List Int} {i : Nat} {x : Int} (h : i < l.length) : (l.set i x)[i]! = x := by
 rw [getElem!_pos _ _ (by simpa using h)]; simp
theorem set_ne {l : List Int} {i j : Nat} {x : Int} (h : i ≠ j) : (l.set i x)[j]! = l[j]! := by
 by_cases hj : j < l.length
 ·rw [getElem!_pos _ _ (by simpa using hj), getElem!_pos l j hj, List.getElem_set_ne h]
 ·rw [getElem!_neg _ _ (by simpa using hj), getElem!_neg l j hj]
@[go_sem] theorem rep_vi {n : Nat} {x : Int} : List.replicate n (AV.sc (.int .i64 x)) = (List.replicate n x).map vi := by simp [vi]
theorem kv_bound {m : List (List Int)} {rows cols : List Int} {all : Int} {f n : Nat} (hall : -4611686018427387904 ≤ all ∧ all ≤ 4611686018427387904) (hd : ∀ k, k < cols.length → -1000000000000 ≤ detF m rows (cols.set k f) ∧ detF m rows (cols.set k f) ≤ 1000000000000) :
  ∀ k, k ≤ cols.length → ∀ x ∈ kvGo m rows cols all f n k, -4611686018427387904 ≤ x ∧ x ≤ 4611686018427387904
 | 0, _, x, hx => by
  simp only [kvGo] at hx
  rcases List.mem_or_eq_of_mem_set hx with h | h
  ·have := List.eq_of_mem_replicate h; omega
  ·have e : w64 (-all) = -all := wrap_in (by omega) (by omega)
   rw [h, amtF, e]; omega
 | k + 1, hk, x, hx => by
  simp only [kvGo] at hx
  have := hd k (by omega)
  have e : w64 (0 - detF m rows (cols.set k f)) = 0 - detF m rows (cols.set k f) := wrap_in (by omega) (by omega)
  have e2 : w64 (0 - (0 - detF m rows (cols.set k f))) = 0 - (0 - detF m rows (cols.set k f)) := wrap_in (by omega) (by omega)
  rw [e, e2] at hx
  rcases List.mem_or_eq_of_mem_set hx with h | h
  ·exact kv_bound hall hd k (by omega) x h
  ·split at h <;> omega
theorem kv_free {m : List (List Int)} {rows cols : List Int} {all : Int} {f n : Nat} (hf : f < n) (hnf : ∀ x ∈ cols, x.toNat ≠ f) : ∀ k, k ≤ cols.length → (kvGo m rows cols all f n k)[f]! = amtF all
 | 0, _ => by simp only [kvGo]; exact set_at (by simpa using hf)
 | k + 1, hk => by
  have h1 := kv_free (m := m) (rows := rows) (all := all) hf hnf k (by omega)
  have h2 := hnf cols[k]! (mem_at (by omega))
  have hl := kvGo_len m rows cols all f n k
  rw [← h1]
  simp only [kvGo]
  exact set_ne h2
theorem con_kernel (m : List (List Int)) (hm : Fits m) : Con Try.prog 60 [vm 0 m] [] fun r _ => r = vpairm (kernF m) := by
 refine Con.intro Try.func60 rfl Try.ntmps60 Try.results60 (by kernel_rfl) (by simp) 0 (by simp) ?_
 simp only [go_sem]
 refine CallU.free (con_mxCheck m hm) (by simp only [go_sem]) (by simp only [go_sem]) ?_
 rintro r bx rfl
 by_cases h1 : mxCheckF m ≠ 0
 ·have hb : (mxCheckF m != 0) = true := bne_iff_ne.2 h1
  simp only [go_sem, hb, vpairm, kernF, h1]
 have h1 : mxCheckF m = 0 := by omega
 have hV := check_ok h1
 have hle := hV.le
 have hcle := hV.cle
 have hp := hV.pos
 have hg0 := getm hp
 obtain ⟨n, hn⟩ : ∃ n, n = m[0]!.length := ⟨_, rfl⟩
 obtain ⟨L1, L2, L3, L4⟩ := lead_len hV
 obtain ⟨R, hR⟩ : ∃ R, R = (leadF m).1 := ⟨_, rfl⟩
 obtain ⟨C, hC⟩ : ∃ C, C = (leadF m).2 := ⟨_, rfl⟩
 obtain ⟨D, hD⟩ : ∃ D, D = detF m R C := ⟨_, rfl⟩
 have hW : Wide n m := by rw [hn]; exact hV.wide
 simp only [go_sem, h1]
 refine CallU.free (con_leading m n (by omega) hp (by omega) hW) (by simp only [go_sem]) (by simp only [go_sem]) ?_
 rintro r bx rfl
 rw [← hR] at L1 L2 L3
 rw [← hC] at L2 L4
 rw [← hR, ← hC]
 rw [← hn] at L4
 have hdet : ∀ cols, Below n cols → cols.length ≤ 6 → -1000000000000 ≤ detF m R cols ∧ detF m R cols ≤ 1000000000000 := fun cols hc hcl => by
  obtain ⟨e1, e2, e3⟩ := det_eq m n hW hV.slight R cols L3 hc L1 hcl
  have : (96 : Int) ^ R.length ≤ 1000000000000 := by
   have h : R.length = 0 ∨ R.length = 1 ∨ R.length = 2 ∨ R.length = 3 ∨ R.length = 4 ∨ R.length = 5 ∨ R.length = 6 := by omega
   rcases h with h | h | h | h | h | h | h <;> rw [h] <;> decide
  omega
 have hDb := hdet C L4 (by omega)
 rw [← hD] at hDb
 have hDne : D ≠ 0 := by rw [hD, hR, hC]; exact lead_ne m _
 simp only [go_sem]
 refine CallU.free (con_det m n (by omega) (by omega) hW R C L3 L4 (by omega) (by omega)) (by simp only [go_sem]) (by simp only [go_sem]) ?_
 rintro r bx rfl
 rw [← hD]
 simp only [go_sem, hp, hg0, ← hn]
 refine LoopK.intro (fun f : Nat => ⟨87, [(0, vm 0 m), (5, vs 0 R), (6, vs 0 C), (7, vi D), (8, vm 5440 (kernGo m R C D n f)), (31, vi n), (32, vi f)], []⟩)
  (fun f => n - f) (fun f => f ≤ n ∧ (kernGo m R C D n f).length ≤ f) 0 ⟨by omega, by simp [kernGo]⟩ ?_ ?_
 ·simp only [go_sem, kernGo, List.map_nil]
 rintro f ⟨hf, hkl⟩
 by_cases h : f < n
 ·have hwf : IntKind.i64.wrap (f + 1) = f + 1 := wrap_in (by omega) (by omega)
  simp only [go_sem, h]
  refine CallU.free (con_mxContains C f (by omega)) (by simp only [go_sem]) (by simp only [go_sem]) ?_
  rintro r bx rfl
  cases hc : C.any fun x => (f : Int) == x
  ·have hnf : ∀ x ∈ C, x.toNat ≠ f := fun x hx hxf => by
    rw [List.any_eq_false] at hc
    have := L4 x hx
    exact hc x hx (by simp; omega)
   simp only [go_sem, hp, hg0, ← hn]
   refine ⟨by omega, by omega, by omega, ?_⟩
   refine CallU.free (con_amount D) (by simp only [go_sem]) (by simp only [go_sem]) ?_
   rintro r bx rfl
   have ha : max D (w64 (-D)) = amtF D := rfl
   simp only [go_sem, h, ha, List.length_map, List.length_replicate]
   refine LoopK.intro (fun k : Nat => ⟨87, [(0, vm 0 m), (5, vs 0 R), (6, vs 0 C), (7, vi D), (8, vm 5440 (kernGo m R C D n f)), (9, vi f), (31, vi n), (32, vi f), (10, vs 2752 (kvGo m R C D f n k)), (48, vs 0 C), (49, vi C.length), (50, vi k)], []⟩)
    (fun k => C.length - k) (fun k => k ≤ C.length) 0 (by omega) ?_ ?_
   ·simp only [go_sem, kvGo, modify_vi, leV_refl]
   intro k hk
   by_cases h2 : k < C.length
   ·have hgk := getv h2
    have hwk : IntKind.i64.wrap (k + 1) = k + 1 := wrap_in (by omega) (by omega)
    have hck := L4.at h2
    have hct : C[k]!.toNat < n := by omega
    have hkv := kvGo_len m R C D f n k
    simp only [go_sem, h2, hgk]
    refine CallU.free (con_mxClone C (by omega)) (by simp only [go_sem]) (by simp only [go_sem]) ?_
    rintro r bx rfl
    simp only [go_sem, h2, modify_vi]
    have hB : Below n (C.set k f) := fun x hx => by
     rcases List.mem_or_eq_of_mem_set hx with h' | h'
     ·exact L4 x h'
     ·omega
    refine CallU.flat (con_det m n (by omega) (by omega) hW R (C.set k f) L3 hB (by omega) (by simp; omega)) (by simp only [go_sem]) (by simp only [go_sem]) ?_
    rintro r bx rfl
    have hset : (kvGo m R C D f n k).length = n := hkv
    by_cases hneg : D < 0
    ·have hg2 : (((kvGo m R C D f n k).set C[k]!.toNat (IntKind.i64.wrap (0 - detF m R (C.set k f)))).map vi)[C[k]!.toNat]? = some (.sc (.int .i64 (IntKind.i64.wrap (0 - detF m R (C.set k f))))) := by
      rw [getv (by rw [List.length_set]; omega), set_at (by omega)]
     simp only [go_sem, hneg, hck, hset, List.length_set, hwk, hg2, List.set_set, modify_vi]
     refine roundK.intro (k + 1) (by omega) (by omega) ?_
     simp only [go_sem, kvGo, hneg]
     exact leV_refl _
    ·simp only [go_sem, hneg, hck, hset, hwk, modify_vi]
     refine roundK.intro (k + 1) (by omega) (by omega) ?_
     simp only [go_sem, kvGo, hneg]
     exact leV_refl _
   ·have hkl2 : k = C.length := by omega
    subst hkl2
    have hb := kv_bound (m := m) (rows := R) (cols := C) (f := f) (n := n) (all := D) (by omega) (fun k hk => hdet (C.set k f) (fun x hx => by
     rcases List.mem_or_eq_of_mem_set hx with h' | h'
     ·exact L4 x h'
     ·omega) (by simp; omega)) C.length (Nat.le_refl _)
    have hfr := kv_free (m := m) (rows := R) (all := D) h hnf C.length (Nat.le_refl _)
    have hamt : amtF D ≠ 0 := by
     have e : w64 (-D) = -D := wrap_in (by omega) (by omega)
     rw [amtF, e]; omega
    have hkvl := kvGo_len m R C D f n C.length
    have hmem : amtF D ∈ kvGo m R C D f n C.length := by rw [← hfr]; exact mem_at (by omega)
    simp only [go_sem, h2]
    refine CallU.flat (con_primitive (kvGo m R C D f n C.length) (by omega) hb (gcdF_pos hmem hamt)) (by simp only [go_sem]) (by simp only [go_sem]) ?_
    rintro r bx rfl
    simp only [go_sem, hwf]
    refine ⟨⟨by omega, by omega⟩, roundK.intro (f + 1) ⟨by omega, ?_⟩ (by omega) ?_⟩
    ·simp only [kernGo, hc]; simp; omega
    ·simp only [go_sem, kernGo, hc, kvF]
     exact leV_sl (by simp [vs])
  ·simp only [go_sem, hwf]
   refine roundK.intro (f + 1) ⟨by omega, by simp [kernGo, hc]; omega⟩ (by omega) ?_
   simp only [go_sem, kernGo, hc]
 ·have : f = n := by omega
  subst this
  simp only [go_sem, Nat.lt_irrefl, vpairm, kernF, h1]
  rw [← hn, ← hR, ← hC, ← hD]
def transF (m : List (List Int)) : List (List Int) := (List.range m[0]!.length).map fun j => m.map fun r => r[j]!
def transR (m : List (List Int)) : List (List Int) × Int := if mxCheckF m ≠ 0 then ([], mxCheckF m) else (transF m, 0)
theorem con_transpose (m : List (List Int)) (hm : Fits m) : Con Try.prog 38 [vm 0 m] [] fun r _ => r = vpairm (transR m) := by
 refine Con.intro Try.func38 rfl Try.ntmps38 Try.results38 (by kernel_rfl) (by simp) 0 (by simp) ?_
 simp only [go_sem]
 refine CallU.free (con_mxCheck m hm) (by simp only [go_sem]) (by simp only [go_sem]) ?_
 rintro r bx rfl
 by_cases h1 : mxCheckF m ≠ 0
 ·have hx : (mxCheckF m != 0) = true := bne_iff_ne.2 h1
  simp only [go_sem, hx, vpairm, transR, h1]
 have h1' : mxCheckF m = 0 := by omega
 have hV := check_ok h1'
 have hp := hV.pos
 have hg := getm hp
 have hl := hV.le
 have hc := hV.cle
 simp only [go_sem, h1', hp, hg]
 refine LoopK.intro (fun i : Nat => ⟨27, [(0, vm 0 m), (5, .sl 1600 1 (((transF m).take i).map (vs 0))), (15, vi m[0]!.length), (16, vi i)], []⟩)
  (fun i => m[0]!.length - i) (fun i => i ≤ m[0]!.length) 0 (by omega) ?_ ?_
 ·simp only [go_sem]
 intro i hi
 by_cases h : i < m[0]!.length
 ·have hwi : IntKind.i64.wrap (i + 1) = i + 1 := wrap_in (by omega) (by omega)
  simp only [go_sem, h]
  refine CallU.free (con_column m i (fun row hr => by rw [(hV.row row hr).1]; exact h) (by omega)) (by simp only [go_sem]) (by simp only [go_sem]) ?_
  rintro r bx rfl
  simp only [go_sem, hwi]
  refine ⟨by simp [roomFor, transF]; omega, roundK.intro (i + 1) (by omega) (by omega) ?_⟩
  simp only [go_sem]
  refine leV_sl ?_
  have e : (transF m).take (i + 1) = (transF m).take i ++ [m.map fun r => r[i]!] := by
   rw [List.take_add_one]
   simp only [transF, List.getElem?_map, List.getElem?_range h]; rfl
  rw [e, List.map_append]; simp only [List.map_cons, List.map_nil, vs, List.map_map]
 ·have hil : i = m[0]!.length := by omega
  subst hil
  have e : (transF m).take m[0]!.length = transF m := List.take_of_length_le (by simp [transF])
  simp only [go_sem, h, e, vpairm, transR, h1']
end Go.AM
namespace Go.La
abbrev Col := Nat → Int
def con (r : Nat) (g : List Col → Int) : List Col → Int
 | [] => 0
 | c :: C => c r * g C - con r (fun L => g (c :: L)) C
def D : List Nat → List Col → Int
 | [] => fun C => if C.isEmpty then 1 else 0
 | r :: R => con r (D R)
theorem con_add (r : Nat) : ∀ (C : List Col) (g h : List Col → Int), con r (fun L => g L + h L) C = con r g C + con r h C
 | [], g, h => by simp [con]
 | c :: C, g, h => by simp only [con, con_add r C, Int.mul_add]; omega
theorem con_smul (r : Nat) (a : Int) : ∀ (C : List Col) (g : List Col → Int), con r (fun L => a * g L) C = a * con r g C
 | [], g => by simp [con]
 | c :: C, g => by
  simp only [con, con_smul r a C, Int.mul_sub]
  rw [← Int.mul_assoc, ← Int.mul_assoc, Int.mul_comm (c r) a]
theorem con_neg (r : Nat) (C : List Col) (g : List Col → Int) : con r (fun L => - g L) C = - con r g C := by
 have := con_smul r (-1) C g
 have e : (fun L => -1 * g L) = fun L => - g L := by funext L; omega
 rw [e] at this; omega
theorem con_zero (r : Nat) : ∀ (C : List Col), con r (fun _ => 0) C = 0
 | [] => rfl
 | c :: C => by simp [con, con_zero r C]
theorem con_sub (r : Nat) (C : List Col) (g h : List Col → Int) : con r (fun L => g L - h L) C = con r g C - con r h C := by
 have e : (fun L => g L - h L) = fun L => g L + - h L := by funext L; omega
 rw [e, con_add, con_neg]; omega
theorem con_swap (r s : Nat) : ∀ (C : List Col) (g : List Col → Int), con r (con s g) C = - con s (con r g) C
 | [], g => by simp [con]
 | c :: C, g => by
  have ih := con_swap r s C (fun L => g (c :: L))
  simp only [con]
  have e1 : ∀ r s : Nat, con r (fun L => con s g (c :: L)) C = c s * con r g C - con r (con s fun L => g (c :: L)) C := fun r s => by
   have : (fun L => con s g (c :: L)) = fun L => c s * g L - con s (fun L => g (c :: L)) L := by funext L; rfl
   rw [this, con_sub, con_smul]
  have e2 := e1 r s
  have e3 := e1 s r
  simp only [con] at e2 e3
  rw [e2, e3]; omega
theorem D_swap (r s : Nat) (R : List Nat) (C : List Col) : D (r :: s :: R) C = - D (s :: r :: R) C := con_swap r s C (D R)
theorem D_same (r : Nat) (R : List Nat) (C : List Col) : D (r :: r :: R) C = 0 := by have := D_swap r r R C; omega
theorem D_row_mem {r : Nat} : ∀ {R : List Nat} (C : List Col), r ∈ R → D (r :: R) C = 0
 | s :: R, C, h => by
  rcases List.mem_cons.1 h with rfl | h
  ·exact D_same _ _ _
  ·rw [D_swap]
   have : D (r :: R) = fun _ => 0 := by funext L; exact D_row_mem L h
   show - con s (D (r :: R)) C = 0
   rw [this, con_zero]; rfl
def Alt (g : List Col → Int) : Prop := ∀ P a b Q, g (P ++ a :: b :: Q) = - g (P ++ b :: a :: Q)
theorem Alt.cons {g : List Col → Int} (h : Alt g) (c : Col) : Alt fun L => g (c :: L) := fun P a b Q => h (c :: P) a b Q
theorem Alt.con {g : List Col → Int} (r : Nat) (h : Alt g) : Alt (con r g) := by
 intro P
 induction P generalizing g with
 | nil =>
  intro a b Q
  have e : (fun L => g (a :: b :: L)) = fun L => - g (b :: a :: L) := by funext L; exact h [] a b L
  simp only [List.nil_append, La.con, e, con_neg]; omega
 | cons c P ih =>
  intro a b Q
  simp only [List.cons_append, La.con]
  rw [ih (h.cons c) a b Q, h P a b Q, Int.mul_neg]; omega
theorem D_alt : ∀ R, Alt (D R)
 | [] => fun P a b Q => by cases P <;> simp [D]
 | r :: R => (D_alt R).con r
theorem Alt.move {g : List Col → Int} (h : Alt g) (a : Col) : ∀ (M P Q : List Col), (∃ s : Int, (s = 1 ∨ s = -1) ∧ g (P ++ a :: M ++ Q) = s * g (P ++ M ++ a :: Q))
 | [], P, Q => ⟨1, .inl rfl, by simp⟩
 | b :: M, P, Q => by
  obtain ⟨s, hs, e⟩ := h.move a M (P ++ [b]) Q
  refine ⟨-s, by omega, ?_⟩
  have e1 := h P a b (M ++ Q)
  simp only [List.append_assoc, List.cons_append, List.nil_append] at e e1 ⊢
  rw [e1, e, Int.neg_mul]
theorem Alt.same {g : List Col → Int} (h : Alt g) (P Q : List Col) (a : Col) : g (P ++ a :: a :: Q) = 0 := by have := h P a a Q; omega
theorem Alt.twice {g : List Col → Int} (h : Alt g) (P M Q : List Col) (a : Col) : g (P ++ a :: M ++ a :: Q) = 0 := by
 obtain ⟨s, _, e⟩ := h.move a M P (a :: Q)
 have := h.same (P ++ M) Q a
 rw [e, this, Int.mul_zero]
theorem Alt.mem {g : List Col → Int} (h : Alt g) {a : Col} {C : List Col} (ha : a ∈ C) : g (C ++ [a]) = 0 := by
 obtain ⟨P, M, rfl⟩ := List.append_of_mem ha
 have := h.twice P M [] a
 simpa using this
def Lin (g : List Col → Int) : Prop := ∀ P Q x y (a b : Int), g (P ++ (fun r => a * x r + b * y r) :: Q) = a * g (P ++ x :: Q) + b * g (P ++ y :: Q)
theorem Lin.cons {g : List Col → Int} (h : Lin g) (c : Col) : Lin fun L => g (c :: L) := fun P Q x y a b => h (c :: P) Q x y a b
theorem Lin.con {g : List Col → Int} (r : Nat) (h : Lin g) : Lin (con r g) := by
 intro P
 induction P generalizing g with
 | nil =>
  intro Q x y a b
  have e : (fun L => g ((fun r => a * x r + b * y r) :: L)) = fun L => a * g (x :: L) + b * g (y :: L) := by funext L; exact h [] L x y a b
  simp only [List.nil_append, La.con, e, con_add, con_smul, Int.add_mul, Int.mul_sub, Int.mul_assoc]; omega
 | cons c P ih =>
  intro Q x y a b
  simp only [List.cons_append, La.con]
  rw [ih (h.cons c) Q x y a b, h P Q x y a b, Int.mul_add, Int.mul_sub, Int.mul_sub]
  have e : ∀ z : Int, c r * (a * z) = a * (c r * z) := fun z => by rw [← Int.mul_assoc, Int.mul_comm (c r) a, Int.mul_assoc]
  have e' : ∀ z : Int, c r * (b * z) = b * (c r * z) := fun z => by rw [← Int.mul_assoc, Int.mul_comm (c r) b, Int.mul_assoc]
  rw [e, e']; omega
theorem D_lin : ∀ R, Lin (D R)
 | [] => fun P Q x y a b => by cases P <;> simp [D]
 | r :: R => (D_lin R).con r
def cram (g : List Col → Int) (y : Col) : List Col → Col
 | [] => fun _ => 0
 | c :: C => fun r => g (y :: C) * c r + cram (fun L => g (c :: L)) y C r
theorem cram_con (r : Nat) (y : Col) : ∀ (C : List Col) {g : List Col → Int}, Alt g → con r (fun L => g (y :: L)) C = cram g y C r
 | [], g, _ => rfl
 | c :: C, g, h => by
  have e : (fun L => g (y :: c :: L)) = fun L => - g (c :: y :: L) := by funext L; exact h [] y c L
  simp only [con, cram, e, con_neg]
  rw [cram_con r y C (h.cons c), Int.mul_comm]; omega
theorem cram_rows {R : List Nat} {r : Nat} (hr : r ∈ R) (y : Col) (C : List Col) : y r * D R C = cram (D R) y C r := by
 have h := D_row_mem (y :: C) hr
 have : D (r :: R) (y :: C) = y r * D R C - con r (fun L => D R (y :: L)) C := rfl
 rw [this, cram_con r y C (D_alt R)] at h
 omega
theorem D_last {i : Nat} {x : Col} : ∀ (R : List Nat) (C : List Col), C.length = R.length → (∀ r ∈ R, x r = 0) → D (R ++ [i]) (C ++ [x]) = x i * D R C
 | [], [], _, _ => by simp [D, con]
 | r :: R, C, hl, h0 => by
  have hr := h0 r (by simp)
  have ih := fun C' hl' => D_last (i := i) (x := x) R C' hl' (fun s hs => h0 s (by simp [hs]))
  show con r (D (R ++ [i])) (C ++ [x]) = x i * con r (D R) C
  have key : ∀ (C : List Col) (n : Nat) (g h : List Col → Int), C.length = n + 1 → (∀ L : List Col, L.length = n → g (L ++ [x]) = x i * h L) → con r g (C ++ [x]) = x i * con r h C := by
   intro C
   induction C with
   | nil => intro n g h hl; simp at hl
   | cons c C ihC =>
    intro n g h hl hg
    simp only [List.cons_append, con]
    rw [hg C (by simpa using hl)]
    cases n with
    | zero =>
     have : C = [] := List.eq_nil_of_length_eq_zero (by simpa using hl)
     subst this
     simp only [List.nil_append, con, hr, Int.zero_mul, Int.sub_zero]
     rw [← Int.mul_assoc, ← Int.mul_assoc, Int.mul_comm (c r)]
    | succ n =>
     rw [ihC n (fun L => g (c :: L)) (fun L => h (c :: L)) (by simpa using hl) (fun L hL => hg (c :: L) (by simp [hL]))]
     rw [Int.mul_sub, ← Int.mul_assoc, ← Int.mul_assoc, Int.mul_comm (c r)]
  exact key C R.length (D (R ++ [i])) (D R) (by simpa using hl) (fun L hL => ih L hL)
theorem cram_last {g : List Col → Int} (ha : Alt g) (hl : Lin g) (B : List Col) (f : List Col → Int) (y : Col) : ∀ (C : List Col), (∀ c ∈ C, c ∈ B) → ∀ (a : Int) (z : Col), g (B ++ [fun r => a * z r - cram f y C r]) = a * g (B ++ [z])
 | [], _, a, z => by
  have := hl B [] z z a 0
  simp only [Int.zero_mul, Int.add_zero] at this
  simp only [cram, Int.sub_zero]; exact this
 | c :: C, hc, a, z => by
  have ih := cram_last ha hl B (fun L => f (c :: L)) y C (fun x hx => hc x (by simp [hx])) a z
  have h := hl B [] (fun r => a * z r - cram (fun L => f (c :: L)) y C r) c 1 (- f (y :: C))
  have e : (fun r => 1 * (a * z r - cram (fun L => f (c :: L)) y C r) + - f (y :: C) * c r) = fun r => a * z r - cram f y (c :: C) r := by
   funext r
   simp only [cram, Int.neg_mul]; omega
  rw [e] at h
  rw [h, ih, ha.mem (hc c (by simp))]; omega
theorem cramer {R : List Nat} {C : List Col} {y : Col} {i : Nat} (hl : C.length = R.length) (hD : D R C ≠ 0) (h0 : D (R ++ [i]) (C ++ [y]) = 0) : D R C * y i = cram (D R) y C i := by
 have h1 := cram_last (D_alt (R ++ [i])) (D_lin (R ++ [i])) C (D R) y C (fun _ h => h) (D R C) y
 rw [h0, Int.mul_zero] at h1
 have h2 := D_last (i := i) (x := fun r => D R C * y r - cram (D R) y C r) R C hl (fun r hr => by
  have := cram_rows hr y C
  rw [Int.mul_comm] at this; omega)
 rw [h1] at h2
 have h3 := Int.mul_eq_zero.1 h2.symm
 rcases h3 with h3 | h3
 ·omega
 ·exact absurd h3 hD
theorem con_col0 {r : Nat} {x : Col} (hx : x r = 0) : ∀ (P Q : List Col) {g : List Col → Int}, (∀ P Q, g (P ++ x :: Q) = 0) → con r g (P ++ x :: Q) = 0
 | [], Q, g, h => by
  have e : (fun L => g (x :: L)) = fun _ => 0 := by funext L; exact h [] L
  simp only [List.nil_append, con, hx, e, con_zero]; omega
 | c :: P, Q, g, h => by
  simp only [List.cons_append, con]
  rw [h P Q, con_col0 hx P Q (fun P' Q' => h (c :: P') Q')]; omega
theorem D_col0 {x : Col} : ∀ (R : List Nat), (∀ r ∈ R, x r = 0) → ∀ P Q, D R (P ++ x :: Q) = 0
 | [], _, P, Q => by cases P <;> simp [D]
 | r :: R, h, P, Q => con_col0 (h r (by simp)) P Q (D_col0 R fun s hs => h s (by simp [hs]))
theorem D_bound {R : List Nat} {B C : List Col} {y : Col} {a : Int} {f : List Col → Int} (ha : a ≠ 0) (hC : ∀ c ∈ C, c ∈ B) (h : ∀ r ∈ R, a * y r = cram f y C r) : D R (B ++ [y]) = 0 := by
 have h1 := cram_last (D_alt R) (D_lin R) B f y C hC a y
 rw [D_col0 R (fun r hr => by have := h r hr; omega) B []] at h1
 rcases Int.mul_eq_zero.1 h1.symm with h2 | h2
 ·exact absurd h2 ha
 ·exact h2
def sum (F : Nat → Int) : Nat → Int
 | 0 => 0
 | k + 1 => sum F k + F k
theorem sum_shift (F : Nat → Int) : ∀ n, sum F (n + 1) = F 0 + sum (fun k => F (k + 1)) n
 | 0 => by simp [sum]
 | n + 1 => by rw [sum, sum_shift F n]; simp only [sum]; omega
theorem sum_congr {F G : Nat → Int} : ∀ n, (∀ k, k < n → F k = G k) → sum F n = sum G n
 | 0, _ => rfl
 | n + 1, h => by simp only [sum]; rw [sum_congr n (fun k hk => h k (by omega)), h n (by omega)]
theorem sum_smul (a : Int) (F : Nat → Int) : ∀ n, sum (fun k => a * F k) n = a * sum F n
 | 0 => by simp [sum]
 | n + 1 => by simp only [sum, sum_smul a F n, Int.mul_add]
theorem sum_zero (n : Nat) : sum (fun _ => 0) n = 0 := by induction n with | zero => rfl | succ n ih => simp [sum, ih]
theorem sum_one {F : Nat → Int} {f : Nat} : ∀ n, f < n → (∀ k, k < n → k ≠ f → F k = 0) → sum F n = F f
 | 0, h, _ => by omega
 | n + 1, h, h0 => by
  by_cases hf : f = n
  ·subst hf
   simp only [sum]
   rw [sum_congr f (G := fun _ => 0) (fun k hk => h0 k (by omega) (by omega)), sum_zero]; omega
  ·simp only [sum]
   rw [sum_one n (by omega) (fun k hk hkf => h0 k (by omega) hkf), h0 n (by omega) (by omega)]; omega
theorem cram_sum (y : Col) (r : Nat) : ∀ (C : List Col) (g : List Col → Int), cram g y C r = sum (fun k => g (C.set k y) * (C[k]?.getD fun _ => 0) r) C.length
 | [], g => rfl
 | c :: C, g => by
  rw [List.length_cons, sum_shift]
  simp only [cram, List.set_cons_zero, List.getElem?_cons_zero, Option.getD_some]
  rw [cram_sum y r C]
  rfl
end Go.La
namespace Go.AM
open Go Go.Proofs Go.RowKit
open Go.La (Col D con cram sum)
def cl (m : List (List Int)) (c : Int) : Col := fun i => m[i]![c.toNat]!
def conI (row : List Int) (g : List Int → Int) : List Int → Int
 | [] => 0
 | c :: C => row[c.toNat]! * g C - conI row (fun L => g (c :: L)) C
theorem detGoZ_con (rec : List Int → Int) (row : List Int) : ∀ (post pre : List Int), (detGoZ rec row (pre ++ post) (pre ++ post).length).1 = (detGoZ rec row (pre ++ post) pre.length).1 + (detGoZ rec row (pre ++ post) pre.length).2 * conI row (fun L => rec (pre ++ L)) post
 | [], pre => by simp [conI]
 | c :: post, pre => by
  have ih := detGoZ_con rec row post (pre ++ [c])
  have e : pre ++ [c] ++ post = pre ++ c :: post := by simp
  rw [e] at ih
  rw [ih]
  have hc : (pre ++ c :: post)[pre.length]! = c := by rw [getElem!_pos _ _ (by simp)]; simp
  have ht : (pre ++ c :: post).take pre.length ++ (pre ++ c :: post).drop (pre.length + 1) = pre ++ post := by simp [List.drop_append]
  simp only [List.length_append, List.length_cons, List.length_nil, Nat.zero_add, detGoZ, hc, ht, conI, List.append_assoc, List.cons_append, List.nil_append]
  rw [Int.neg_mul, Int.mul_sub, Int.mul_assoc]; omega
theorem conI_con {m : List (List Int)} {r : Nat} : ∀ (C : List Int) (g : List Int → Int) (h : List Col → Int) (n : Nat), C.length = n + 1 → (∀ L, (∀ x ∈ L, x ∈ C) → L.length = n → g L = h (L.map (cl m))) → conI m[r]! g C = con r h (C.map (cl m))
 | [], _, _, n, hl, _ => by simp at hl
 | c :: C, g, h, n, hl, hg => by
  have hn : C.length = n := by simpa using hl
  simp only [conI, con, List.map_cons]
  rw [hg C (fun x hx => by simp [hx]) hn]
  cases n with
  | zero =>
   have : C = [] := List.eq_nil_of_length_eq_zero hn
   subst this; rfl
  | succ n =>
   rw [conI_con C (fun L => g (c :: L)) (fun L => h (cl m c :: L)) n hn (fun L hL hLn => hg (c :: L) (fun x hx => by
    rcases List.mem_cons.1 hx with rfl | hx
    ·simp
    ·simp [hL x hx]) (by simp [hLn]))]
   rfl
theorem detZ_D (m : List (List Int)) : ∀ (rows cols : List Int), cols.length = rows.length → detZ m rows cols = D (rows.map Int.toNat) (cols.map (cl m))
 | [], [], _ => rfl
 | r :: rs, cols, hl => by
  have h := detGoZ_con (detZ m rs) m[r.toNat]! cols []
  simp only [List.nil_append, List.length_nil, detGoZ, Int.one_mul, Int.zero_add] at h
  simp only [detZ, h, List.map_cons]
  exact conI_con cols _ _ rs.length (by simpa using hl) (fun L _ hL => detZ_D m rs L hL)
theorem det_D {m : List (List Int)} {n : Nat} (hw : Wide n m) (hs : Slight m) {rows cols : List Int} (hr : Below m.length rows) (hc : Below n cols) (h6 : rows.length ≤ 6) (hl : cols.length = rows.length) :
  detF m rows cols = D (rows.map Int.toNat) (cols.map (cl m)) := by
 rw [(det_eq m n hw hs rows cols hr hc h6 (by omega)).1, detZ_D m rows cols hl]
theorem lead_prefix (m : List (List Int)) (j : Nat) : ∀ k, ∀ c ∈ (leadGo m j).2, c ∈ (leadGo m (j + k)).2
 | 0, c, hc => hc
 | k + 1, c, hc => by
  have ih := lead_prefix m j k c hc
  show c ∈ (leadGo m (j + k + 1)).2
  simp only [leadGo]
  cases pickF m (leadGo m (j + k)) (j + k : Nat) with
  | none => exact ih
  | some i => simp [ih]
theorem lead_mem (m : List (List Int)) (f : Nat) : ∀ j, (f : Int) ∈ (leadGo m j).2 ↔ f < j ∧ (pickF m (leadGo m f) f).isSome = true
 | 0 => by simp [leadGo]
 | j + 1 => by
  have ih := lead_mem m f j
  have hb := (lead_ok m j).cols
  cases hp : pickF m (leadGo m j) j with
  | none =>
   simp only [leadGo, hp, ih]
   constructor
   ·rintro ⟨h1, h2⟩; exact ⟨by omega, h2⟩
   ·rintro ⟨h1, h2⟩
    refine ⟨?_, h2⟩
    have : f ≠ j := by rintro rfl; rw [hp] at h2; simp at h2
    omega
  | some i =>
   simp only [leadGo, hp, List.mem_append, List.mem_singleton, ih]
   constructor
   ·rintro (⟨h1, h2⟩ | h)
    ·exact ⟨by omega, h2⟩
    ·have : f = j := by omega
     subst this; rw [hp]; simp
   ·rintro ⟨h1, h2⟩
    by_cases hf : f = j
    ·exact .inr (by omega)
    ·exact .inl ⟨by omega, h2⟩
theorem kern_count (m : List (List Int)) (rows : List Int) (all : Int) (n : Nat) : ∀ f, f ≤ n → (kernGo m rows (leadGo m n).2 all n f).length + (leadGo m f).2.length = f
 | 0, _ => by simp [kernGo, leadGo]
 | f + 1, h => by
  have ih := kern_count m rows all n f (by omega)
  have hm := lead_mem m f n
  have hany : ((leadGo m n).2.any fun x => (f : Int) == x) = (pickF m (leadGo m f) f).isSome := by
   rw [Bool.eq_iff_iff, List.any_eq_true]
   constructor
   ·rintro ⟨x, hx, he⟩
    have : (f : Int) = x := by simpa using he
    subst this; exact (hm.1 hx).2
   ·intro h2; exact ⟨f, hm.2 ⟨by omega, h2⟩, by simp⟩
  simp only [kernGo, hany, leadGo]
  cases hp : pickF m (leadGo m f) f with
  | none => simp; omega
  | some i => simp; omega
theorem free_bound {m : List (List Int)} (hV : Valid m) {f : Nat} (hf : f < m[0]!.length) (hp : pickF m (leadGo m f) f = none) {i : Nat} (hi : i < m.length) :
  D ((leadGo m f).1.map Int.toNat) ((leadGo m f).2.map (cl m)) ≠ 0 ∧ D ((leadGo m f).1.map Int.toNat) ((leadGo m f).2.map (cl m)) * cl m f i = cram (D ((leadGo m f).1.map Int.toNat)) (cl m f) ((leadGo m f).2.map (cl m)) i := by
 obtain ⟨h1, h2, h3, h4⟩ := lead_ok m f
 have hn := nodup_below _ _ (lead_nodup m f) h1
 have hsm := hV.small
 have hne := lead_ne m f
 rw [det_D hV.wide hV.slight h1 (h2.mono (by omega)) (by omega) h3.symm] at hne
 refine ⟨hne, ?_⟩
 by_cases hir : (i : Int) ∈ (leadGo m f).1
 ·have hmem : i ∈ (leadGo m f).1.map Int.toNat := List.mem_map.2 ⟨i, hir, by simp⟩
  have := Go.La.cram_rows hmem (cl m f) ((leadGo m f).2.map (cl m))
  rw [← this, Int.mul_comm]
 ·have hpk : pickOk m (leadGo m f) f i = false := by
   unfold pickF at hp
   rw [List.find?_eq_none] at hp
   simpa using hp i (List.mem_range.2 hi)
  have hany : ((leadGo m f).1.any fun x => (i : Int) == x) = false := by
   rw [List.any_eq_false]
   intro x hx he
   have : (i : Int) = x := by simpa using he
   subst this; exact hir hx
  simp only [pickOk, hany, Bool.not_false, Bool.true_and, bne_eq_false_iff_eq] at hpk
  have hnd : ((leadGo m f).1 ++ [(i : Int)]).Nodup := by
   rw [List.nodup_append]
   refine ⟨lead_nodup m f, by simp, fun a ha b hb => ?_⟩
   simp at hb; subst hb
   rintro rfl; exact hir ha
  have hlen := nodup_below _ _ hnd (h1.snoc (by omega) (by omega : (i : Int) < m.length))
  simp only [List.length_append, List.length_singleton] at hlen
  rw [det_D hV.wide hV.slight (h1.snoc (by omega) (by omega)) ((h2.mono (k := m[0]!.length) (by omega)).snoc (by omega) (by omega)) (by simp; omega) (by simp; omega)] at hpk
  simp only [List.map_append, List.map_cons, List.map_nil, Int.toNat_natCast] at hpk
  exact Go.La.cramer (by simpa using h3.symm) hne hpk
theorem free_kernel {m : List (List Int)} (hV : Valid m) {f : Nat} (hf : f < m[0]!.length) (hp : pickF m (leadGo m f) f = none) {i : Nat} (hi : i < m.length) :
  D ((leadF m).1.map Int.toNat) ((leadF m).2.map (cl m)) ≠ 0 ∧ D ((leadF m).1.map Int.toNat) ((leadF m).2.map (cl m)) * cl m f i = cram (D ((leadF m).1.map Int.toNat)) (cl m f) ((leadF m).2.map (cl m)) i := by
 obtain ⟨L1, L2, L3, L4⟩ := lead_len hV
 have hne : detF m (leadF m).1 (leadF m).2 ≠ 0 := lead_ne m m[0]!.length
 rw [det_D hV.wide hV.slight L3 L4 L1 L2] at hne
 refine ⟨hne, ?_⟩
 by_cases hir : i ∈ (leadF m).1.map Int.toNat
 ·rw [← Go.La.cram_rows hir (cl m f) ((leadF m).2.map (cl m)), Int.mul_comm]
 ·refine Go.La.cramer (by simpa using L2) hne ?_
  have hb := fun {i} hi => free_bound hV hf hp (i := i) hi
  refine Go.La.D_bound (C := (leadGo m f).2.map (cl m)) (f := D ((leadGo m f).1.map Int.toNat)) (hb hi).1 (fun c hc => ?_) (fun r hr => ?_)
  ·obtain ⟨x, hx, rfl⟩ := List.mem_map.1 hc
   have := lead_prefix m f (m[0]!.length - f) x hx
   rw [show f + (m[0]!.length - f) = m[0]!.length by omega] at this
   exact List.mem_map.2 ⟨x, this, rfl⟩
  ·rcases List.mem_append.1 hr with h | h
   ·obtain ⟨x, hx, rfl⟩ := List.mem_map.1 h
    have := L3 x hx
    exact (hb (i := x.toNat) (by omega)).2
   ·simp at h; subst h; exact (hb hi).2
theorem mxSumSet (row v : List Int) (c : Nat) (x : Int) (hc : c < v.length) : ∀ n, sum (fun j => row[j]! * (v.set c x)[j]!) n = sum (fun j => row[j]! * v[j]!) n + if c < n then row[c]! * (x - v[c]!) else 0
 | 0 => by simp [sum]
 | n + 1 => by
  simp only [sum]
  rw [mxSumSet row v c x hc n]
  by_cases h : c = n
  ·subst h
   rw [set_at hc, if_neg (by omega), if_pos (by omega), Int.mul_sub]; omega
  ·rw [set_ne h]
   by_cases h2 : c < n
   ·rw [if_pos h2, if_pos (by omega)]; omega
   ·rw [if_neg h2, if_neg (by omega)]; omega
def numK (m : List (List Int)) (rows cols : List Int) (all : Int) (f : Nat) (k : Nat) : Int := if all < 0 then detF m rows (cols.set k f) else - detF m rows (cols.set k f)
theorem kv_step {m : List (List Int)} {rows cols : List Int} {all : Int} {f n k : Nat} (hd : -1000000000000 ≤ detF m rows (cols.set k f) ∧ detF m rows (cols.set k f) ≤ 1000000000000) :
  kvGo m rows cols all f n (k + 1) = (kvGo m rows cols all f n k).set cols[k]!.toNat (numK m rows cols all f k) := by
 have e : w64 (0 - detF m rows (cols.set k f)) = - detF m rows (cols.set k f) := by rw [Int.zero_sub]; exact wrap_in (by omega) (by omega)
 have e2 : w64 (0 - - detF m rows (cols.set k f)) = detF m rows (cols.set k f) := by rw [Int.zero_sub, Int.neg_neg]; exact wrap_in (by omega) (by omega)
 simp only [kvGo, numK, e, e2]
theorem kv_rest {m : List (List Int)} {rows cols : List Int} {all : Int} {f n c : Nat} (hcf : f ≠ c) : ∀ k, (∀ j, j < k → cols[j]!.toNat ≠ c) → (kvGo m rows cols all f n k)[c]! = 0
 | 0, _ => by
  simp only [kvGo]
  rw [set_ne hcf]
  by_cases h : c < n
  ·rw [getElem!_pos _ _ (by simpa using h)]; simp
  ·rw [getElem!_neg _ _ (by simpa using h)]; rfl
 | k + 1, h => by
  simp only [kvGo]
  rw [set_ne (h k (by omega))]
  exact kv_rest hcf k fun j hj => h j (by omega)
theorem nodup_at {l : List Int} (h : l.Nodup) {i j : Nat} (hi : i < l.length) (hj : j < l.length) (hij : l[i]! = l[j]!) : i = j := by
 rw [getElem!_pos l i hi, getElem!_pos l j hj] at hij
 exact (List.getElem_inj h).1 hij
theorem kv_sum {m : List (List Int)} {rows cols : List Int} {all : Int} {f n : Nat} (row : List Int) (hf : f < n) (hc : Below n cols) (hnd : cols.Nodup) (hnf : ∀ x ∈ cols, x.toNat ≠ f)
  (hd : ∀ k, k < cols.length → -1000000000000 ≤ detF m rows (cols.set k f) ∧ detF m rows (cols.set k f) ≤ 1000000000000) :
  ∀ k, k ≤ cols.length → sum (fun j => row[j]! * (kvGo m rows cols all f n k)[j]!) n = row[f]! * amtF all + sum (fun k => row[cols[k]!.toNat]! * numK m rows cols all f k) k
 | 0, _ => by
  simp only [kvGo]
  rw [mxSumSet _ _ _ _ (by simpa using hf), if_pos hf]
  have e : sum (fun j => row[j]! * (List.replicate n (0 : Int))[j]!) n = 0 := by
   rw [Go.La.sum_congr n (G := fun _ => 0) (fun j hj => by rw [getElem!_pos (List.replicate n (0 : Int)) j (by simpa using hj)]; simp), Go.La.sum_zero]
  have e2 : (List.replicate n (0 : Int))[f]! = 0 := by rw [getElem!_pos _ _ (by simpa using hf)]; simp
  rw [e, e2]; simp [sum]
 | k + 1, h => by
  have ih := kv_sum (all := all) row hf hc hnd hnf hd k (by omega)
  have hck := hc.at (i := k) (by omega)
  have hl := kvGo_len m rows cols all f n k
  have hz : (kvGo m rows cols all f n k)[cols[k]!.toNat]! = 0 := kv_rest (fun e => hnf cols[k]! (mem_at (by omega)) e.symm) k (fun j hj he => by
   have hj2 := hc.at (i := j) (by omega)
   have := nodup_at hnd (by omega) (by omega) (show cols[j]! = cols[k]! by omega)
   omega)
  rw [kv_step (hd k (by omega)), mxSumSet _ _ _ _ (by omega), if_pos (by omega), ih, hz]
  simp only [sum, Int.sub_zero]; omega
theorem lead_cols_nodup (m : List (List Int)) : ∀ j, (leadGo m j).2.Nodup
 | 0 => by simp [leadGo]
 | j + 1 => by
  have ih := lead_cols_nodup m j
  have hb := (lead_ok m j).cols
  cases hp : pickF m (leadGo m j) j with
  | none => simpa [leadGo, hp] using ih
  | some i =>
   simp only [leadGo, hp]
   rw [List.nodup_append]
   refine ⟨ih, by simp, fun a ha b hb' => ?_⟩
   simp at hb'; subst hb'
   rintro rfl
   have := hb _ ha; omega
theorem kv_zero {m : List (List Int)} (hV : Valid m) {f : Nat} (hf : f < m[0]!.length) (hp : pickF m (leadGo m f) f = none) {i : Nat} (hi : i < m.length) :
  sum (fun j => m[i]![j]! * (kvF m (leadF m).1 (leadF m).2 (detF m (leadF m).1 (leadF m).2) f m[0]!.length)[j]!) m[0]!.length = 0 := by
 obtain ⟨L1, L2, L3, L4⟩ := lead_len hV
 obtain ⟨R, hR⟩ : ∃ R, R = (leadF m).1 := ⟨_, rfl⟩
 obtain ⟨C, hC⟩ : ∃ C, C = (leadF m).2 := ⟨_, rfl⟩
 have hk := free_kernel hV hf hp hi
 have hnd := lead_cols_nodup m m[0]!.length
 have hnf : ∀ x ∈ C, x.toNat ≠ f := fun x hx e => by
  rw [hC] at hx
  have hx0 := L4 x hx
  have : (f : Int) ∈ (leadGo m m[0]!.length).2 := by rw [show (f : Int) = x by omega]; exact hx
  have := ((lead_mem m f m[0]!.length).1 this).2
  rw [hp] at this; simp at this
 have hnd : C.Nodup := by rw [hC]; exact hnd
 rw [← hR] at L1 L2 L3 hk
 rw [← hC] at L2 L4 hk
 rw [← hR, ← hC]
 have hB : ∀ k, Below m[0]!.length (C.set k f) := fun k x hx => by
  rcases List.mem_or_eq_of_mem_set hx with h' | h'
  ·exact L4 x h'
  ·omega
 have hdet : ∀ k, detF m R (C.set k f) = D (R.map Int.toNat) ((C.set k f).map (cl m)) := fun k => det_D hV.wide hV.slight L3 (hB k) L1 (by simp; omega)
 have hbd : ∀ cols, Below m[0]!.length cols → cols.length ≤ 6 → -1000000000000 ≤ detF m R cols ∧ detF m R cols ≤ 1000000000000 := fun cols hc hcl => by
  obtain ⟨e1, e2, e3⟩ := det_eq m m[0]!.length hV.wide hV.slight R cols L3 hc L1 hcl
  have : (96 : Int) ^ R.length ≤ 1000000000000 := by
   have h : R.length = 0 ∨ R.length = 1 ∨ R.length = 2 ∨ R.length = 3 ∨ R.length = 4 ∨ R.length = 5 ∨ R.length = 6 := by omega
   rcases h with h | h | h | h | h | h | h <;> rw [h] <;> decide
  omega
 obtain ⟨A, hA⟩ : ∃ A, A = detF m R C := ⟨_, rfl⟩
 have hAD := det_D hV.wide hV.slight L3 L4 L1 L2
 rw [← hA] at hAD ⊢
 have hAb := hbd C L4 (by omega)
 rw [← hA] at hAb
 unfold kvF
 rw [kv_sum m[i]! hf L4 hnd hnf (fun k _ => hbd _ (hB k) (by simp; omega)) C.length (Nat.le_refl _)]
 have hcr := hk.2
 rw [← hAD, Go.La.cram_sum] at hcr
 have hcs : sum (fun k => D (R.map Int.toNat) ((C.map (cl m)).set k (cl m f)) * ((C.map (cl m))[k]?.getD fun _ => 0) i) (C.map (cl m)).length = sum (fun k => detF m R (C.set k f) * m[i]![C[k]!.toNat]!) C.length := by
  rw [List.length_map]
  refine Go.La.sum_congr _ fun k hk => ?_
  rw [hdet k, List.map_set]
  simp [hk, cl]
 rw [hcs] at hcr
 have hamt : amtF A = if A < 0 then -A else A := by
  have e : w64 (-A) = -A := wrap_in (by omega) (by omega)
  rw [amtF, e]; split <;> omega
 have hcf : cl m f i = m[i]![f]! := by simp [cl]
 rw [hcf] at hcr
 by_cases hneg : A < 0
 ·have e : sum (fun k => m[i]![C[k]!.toNat]! * numK m R C A f k) C.length = sum (fun k => detF m R (C.set k f) * m[i]![C[k]!.toNat]!) C.length := Go.La.sum_congr _ fun k _ => by simp only [numK, if_pos hneg, Int.mul_comm]
  rw [e, ← hcr, hamt, if_pos hneg, Int.mul_neg, Int.mul_comm]; omega
 ·have e : sum (fun k => m[i]![C[k]!.toNat]! * numK m R C A f k) C.length = -1 * sum (fun k => detF m R (C.set k f) * m[i]![C[k]!.toNat]!) C.length := by
   rw [← Go.La.sum_smul]
   exact Go.La.sum_congr _ fun k _ => by
    simp only [numK, if_neg hneg, Int.mul_comm m[i]![C[k]!.toNat]!, Int.neg_mul]; omega
  rw [e, ← hcr, hamt, if_neg hneg, Int.mul_comm]; omega
theorem dvd_gcdN {l : List Int} {e : Nat} : ∀ k, (∀ i, i < k → e ∣ l[i]!.natAbs) → e ∣ gcdN l k
 | 0, _ => Nat.dvd_zero e
 | k + 1, h => Nat.dvd_gcd (dvd_gcdN k fun i hi => h i (by omega)) (h k (by omega))
theorem prim_at {l : List Int} {j : Nat} (_hg : 0 < gcdF l) : l[j]! = gcdF l * (primF l)[j]! := by
 by_cases h : j < l.length
 ·have hd := gcdN_dvd (l := l) l.length j h
  have e : (primF l)[j]! = l[j]!.tdiv (gcdF l) := by
   unfold primF
   rw [getElem!_pos _ _ (by simpa using h), List.getElem_map, getElem!_pos l j h]
  rw [e]
  have hd2 : ((gcdF l : Nat) : Int) ∣ l[j]! := Int.ofNat_dvd_left.2 hd
  exact (Int.mul_tdiv_cancel' hd2).symm
 ·rw [getElem!_neg l j h, getElem!_neg (primF l) j (by simpa [primF] using h)]; simp
theorem prim_one {l : List Int} (hg : 0 < gcdF l) : gcdF (primF l) = 1 := by
 have h1 : gcdF l * gcdF (primF l) ∣ gcdF l := dvd_gcdN l.length fun i hi => by
  rw [prim_at hg (j := i), Int.natAbs_mul, Int.natAbs_natCast]
  refine Nat.mul_dvd_mul_left _ (gcdN_dvd (primF l).length i ?_)
  simpa [primF] using hi
 have h2 := Nat.le_of_dvd hg h1
 have h3 : 0 < gcdF (primF l) := by
  rcases Nat.eq_zero_or_pos (gcdF (primF l)) with h | h
  ·rw [h, Nat.mul_zero] at h1
   have := Nat.eq_zero_of_zero_dvd h1; omega
  ·exact h
 have h4 : gcdF l * gcdF (primF l) ≤ gcdF l * 1 := by omega
 have := Nat.le_of_mul_le_mul_left h4 hg
 omega
theorem prim_zero {l row : List Int} {n : Nat} (hg : 0 < gcdF l) (h : sum (fun j => row[j]! * l[j]!) n = 0) : sum (fun j => row[j]! * (primF l)[j]!) n = 0 := by
 have e : sum (fun j => row[j]! * l[j]!) n = gcdF l * sum (fun j => row[j]! * (primF l)[j]!) n := by
  rw [← Go.La.sum_smul]
  exact Go.La.sum_congr _ fun j _ => by rw [prim_at hg (j := j), ← Int.mul_assoc, Int.mul_comm row[j]!, Int.mul_assoc]
 rw [e] at h
 rcases Int.mul_eq_zero.1 h with h | h
 ·omega
 ·exact h
theorem prim_bound {l : List Int} {b : Int} (h : ∀ x ∈ l, -b ≤ x ∧ x ≤ b) : ∀ x ∈ primF l, -b ≤ x ∧ x ≤ b := fun x hx => by
 obtain ⟨y, hy, rfl⟩ := List.mem_map.1 hx
 have := h y hy
 have h1 : (y.tdiv (gcdF l)).natAbs ≤ y.natAbs := by rw [Int.natAbs_tdiv]; exact Nat.div_le_self _ _
 omega
end Go.AM
namespace Go.La
theorem sum_add {F G : Nat → Int} : ∀ n, sum (fun k => F k + G k) n = sum F n + sum G n
 | 0 => rfl
 | n + 1 => by simp only [sum, sum_add n]; omega
theorem D_agree {R : List Nat} {x y : Col} (h : ∀ r ∈ R, x r = y r) (P Q : List Col) : D R (P ++ x :: Q) = D R (P ++ y :: Q) := by
 have h0 := D_col0 (x := fun r => 1 * x r + -1 * y r) R (fun r hr => by have := h r hr; omega) P Q
 rw [D_lin R P Q x y 1 (-1)] at h0
 omega
theorem Lin.zero {g : List Col → Int} (h : Lin g) (P Q : List Col) : g (P ++ (fun _ => 0) :: Q) = 0 := by
 have := h P Q (fun _ => 0) (fun _ => 0) 0 0
 simpa using this
theorem Lin.sum {g : List Col → Int} (h : Lin g) (P Q : List Col) (B : Nat → Col) (c : Nat → Int) : ∀ k, g (P ++ (fun r => La.sum (fun t => c t * B t r) k) :: Q) = La.sum (fun t => c t * g (P ++ B t :: Q)) k
 | 0 => h.zero P Q
 | k + 1 => by
  have := h P Q (fun r => La.sum (fun t => c t * B t r) k) (B k) 1 (c k)
  simp only [Int.one_mul] at this
  simp only [La.sum]
  rw [this, h.sum P Q B c k]
theorem not_nodup {α : Type} : ∀ {l : List α}, ¬ l.Nodup → ∃ P a M Q, l = P ++ a :: M ++ a :: Q
 | [], h => absurd List.nodup_nil h
 | x :: l, h => by
  by_cases hx : x ∈ l
  ·obtain ⟨M, Q, rfl⟩ := List.append_of_mem hx
   exact ⟨[], x, M, Q, rfl⟩
  ·have : ¬ l.Nodup := fun hn => h (List.nodup_cons.2 ⟨hx, hn⟩)
   obtain ⟨P, a, M, Q, rfl⟩ := not_nodup this
   exact ⟨x :: P, a, M, Q, rfl⟩
theorem nodup_lt : ∀ (n : Nat) (l : List Nat), l.Nodup → (∀ x ∈ l, x < n) → l.length ≤ n
 | 0, l, _, h => by
  cases l with
  | nil => simp
  | cons x l => exact absurd (h x (by simp)) (by omega)
 | n + 1, l, hn, h => by
  have := nodup_lt n (l.erase n) (hn.erase n) (fun x hx => by
   have h1 := h x (List.mem_of_mem_erase hx)
   have h2 : x ≠ n := fun he => by subst he; exact (hn.not_mem_erase) hx
   omega)
  by_cases hm : n ∈ l
  ·rw [List.length_erase_of_mem hm] at this; omega
  ·rw [List.erase_of_not_mem hm] at this; omega
end Go.La
namespace Go.AM
open Go Go.Proofs Go.RowKit Go.La
def rkF (m : List (List Int)) : Nat := (leadF m).1.length
theorem snoc_at {α : Type} [Inhabited α] {l : List α} {x : α} {i : Nat} (h : i < l.length) : (l ++ [x])[i]! = l[i]! := by
 rw [getElem!_pos (l ++ [x]) i (by simp; omega), getElem!_pos l i h, List.getElem_append_left h]
theorem snoc_end {α : Type} [Inhabited α] {l : List α} {x : α} : (l ++ [x])[l.length]! = x := by
 rw [getElem!_pos _ _ (by simp)]; simp
theorem setTo {α : Type} [Inhabited α] {l : List α} {i j : Nat} {x : α} (h : j < l.length) : (l.set i x)[j]! = if i = j then x else l[j]! := by
 rw [getElem!_pos (l.set i x) j (by rw [List.length_set]; exact h), List.getElem_set]
 split
 ·rfl
 ·rw [getElem!_pos l j h]
end Go.AM
namespace Go.AM
open Go Go.Proofs Go.RowKit
open Go.La (sum sum_congr sum_add sum_one D Col D_lin D_alt D_agree)
theorem sum_two {F : Nat → Int} {n c d : Nat} (hc : c < n) (hd : d < n) (hcd : c ≠ d) (h : ∀ k, k < n → k ≠ c → k ≠ d → F k = 0) : sum F n = F c + F d := by
 have e : sum F n = sum (fun k => (if k = c then F k else 0) + (if k = c then 0 else F k)) n := sum_congr n fun k _ => by split <;> omega
 rw [e, sum_add, sum_one (f := c) n hc fun k _ hk => if_neg hk, sum_one (f := d) n hd fun k hk hkd => by
  split
  ·rfl
  ·rename_i h0; exact h k hk h0 hkd]
 rw [if_pos rfl, if_neg (Ne.symm hcd)]
structure KernOk (m : List (List Int)) (k : List (List Int)) : Prop where
 wide : ∀ v ∈ k, v.length = m[0]!.length
 bound : ∀ v ∈ k, ∀ x ∈ v, -1000000000000 ≤ x ∧ x ≤ 1000000000000
 one : ∀ v ∈ k, gcdF v = 1
 zero : ∀ v ∈ k, ∀ i, i < m.length → sum (fun j => m[i]![j]! * v[j]!) m[0]!.length = 0
theorem kern_ok {m : List (List Int)} (hV : Valid m) : KernOk m (kernGo m (leadF m).1 (leadF m).2 (detF m (leadF m).1 (leadF m).2) m[0]!.length m[0]!.length) ∧
  (kernGo m (leadF m).1 (leadF m).2 (detF m (leadF m).1 (leadF m).2) m[0]!.length m[0]!.length).length + (leadF m).1.length = m[0]!.length := by
 obtain ⟨L1, L2, L3, L4⟩ := lead_len hV
 refine ⟨?_, ?_⟩
 ·obtain ⟨n, hn⟩ : ∃ n, n = m[0]!.length := ⟨_, rfl⟩
  obtain ⟨D, hD⟩ : ∃ D, D = detF m (leadF m).1 (leadF m).2 := ⟨_, rfl⟩
  have hdet : ∀ cols, Below m[0]!.length cols → cols.length ≤ 6 → -1000000000000 ≤ detF m (leadF m).1 cols ∧ detF m (leadF m).1 cols ≤ 1000000000000 := fun cols hc hcl => by
   obtain ⟨e1, e2, e3⟩ := det_eq m m[0]!.length hV.wide hV.slight (leadF m).1 cols L3 hc L1 hcl
   have : (96 : Int) ^ (leadF m).1.length ≤ 1000000000000 := by
    have h : (leadF m).1.length = 0 ∨ (leadF m).1.length = 1 ∨ (leadF m).1.length = 2 ∨ (leadF m).1.length = 3 ∨ (leadF m).1.length = 4 ∨ (leadF m).1.length = 5 ∨ (leadF m).1.length = 6 := by omega
    rcases h with h | h | h | h | h | h | h <;> rw [h] <;> decide
   omega
  have hDb := hdet (leadF m).2 L4 (by omega)
  have hDne : detF m (leadF m).1 (leadF m).2 ≠ 0 := lead_ne m m[0]!.length
  rw [← hD] at hDb hDne ⊢
  rw [← hn]
  have key : ∀ f, f ≤ n → ∀ v ∈ kernGo m (leadF m).1 (leadF m).2 D n f, v.length = n ∧ (∀ x ∈ v, -1000000000000 ≤ x ∧ x ≤ 1000000000000) ∧ gcdF v = 1 ∧ ∀ i, i < m.length → sum (fun j => m[i]![j]! * v[j]!) n = 0 := by
   intro f
   induction f with
   | zero => intro _ v hv; simp [kernGo] at hv
   | succ f ih =>
    intro hf v hv
    simp only [kernGo] at hv
    split at hv
    ·exact ih (by omega) v hv
    ·rename_i hc
     rcases List.mem_append.1 hv with hv | hv
     ·exact ih (by omega) v hv
     simp only [List.mem_singleton] at hv
     subst hv
     have hnf : ¬ (f : Int) ∈ (leadGo m n).2 := fun h => hc (List.any_eq_true.2 ⟨f, by rw [leadF, ← hn]; exact h, by simp⟩)
     have hp : pickF m (leadGo m f) f = none := by
      cases hp : pickF m (leadGo m f) f with
      | none => rfl
      | some i => exact absurd ((lead_mem m f n).2 ⟨by omega, by rw [hp]; rfl⟩) hnf
     have hnf2 : ∀ x ∈ (leadF m).2, x.toNat ≠ f := fun x hx e => by
      have := L4 x hx
      exact hnf (by rw [leadF, ← hn] at hx; rw [show (f : Int) = x by omega]; exact hx)
     have hB : ∀ k, Below m[0]!.length ((leadF m).2.set k f) := fun k x hx => by
      rcases List.mem_or_eq_of_mem_set hx with h' | h'
      ·exact L4 x h'
      ·omega
     have hfr := kv_free (m := m) (rows := (leadF m).1) (all := D) (f := f) (n := n) (by omega) hnf2 (leadF m).2.length (Nat.le_refl _)
     have hamt : amtF D ≠ 0 ∧ -1000000000000 ≤ amtF D ∧ amtF D ≤ 1000000000000 := by
      have e : w64 (-D) = -D := wrap_in (by omega) (by omega)
      rw [amtF, e]; omega
     have hkvl : (kvF m (leadF m).1 (leadF m).2 D f n).length = n := kvGo_len m (leadF m).1 (leadF m).2 D f n (leadF m).2.length
     have hmem : amtF D ∈ kvF m (leadF m).1 (leadF m).2 D f n := by rw [← hfr]; exact mem_at (show f < (kvF m (leadF m).1 (leadF m).2 D f n).length by omega)
     have hg := gcdF_pos hmem hamt.1
     have hb : ∀ k, k ≤ (leadF m).2.length → ∀ x ∈ kvGo m (leadF m).1 (leadF m).2 D f n k, -1000000000000 ≤ x ∧ x ≤ 1000000000000 := by
      intro k
      induction k with
      | zero =>
       intro _ x hx
       simp only [kvGo] at hx
       rcases List.mem_or_eq_of_mem_set hx with h | h
       ·have := List.eq_of_mem_replicate h; omega
       ·omega
      | succ k ihk =>
       intro hk x hx
       have hd := hdet ((leadF m).2.set k f) (hB k) (by simp; omega)
       rw [kv_step hd] at hx
       rcases List.mem_or_eq_of_mem_set hx with h | h
       ·exact ihk (by omega) x h
       ·rw [h, numK]; split <;> omega
     have hz : ∀ i, i < m.length → sum (fun j => m[i]![j]! * (kvF m (leadF m).1 (leadF m).2 D f n)[j]!) n = 0 := fun i hi => by
      have := kv_zero hV (f := f) (by omega) hp hi
      rw [← hD, ← hn] at this
      exact this
     refine ⟨by simp [primF, hkvl], prim_bound (hb _ (Nat.le_refl _)), prim_one hg, fun i hi => prim_zero hg (hz i hi)⟩
  exact ⟨fun v hv => by rw [← hn]; exact (key n (Nat.le_refl _) v hv).1, fun v hv => (key n (Nat.le_refl _) v hv).2.1, fun v hv => (key n (Nat.le_refl _) v hv).2.2.1, fun v hv => by rw [← hn]; exact (key n (Nat.le_refl _) v hv).2.2.2⟩
 ·have := kern_count m (leadF m).1 (detF m (leadF m).1 (leadF m).2) m[0]!.length m[0]!.length (Nat.le_refl _)
  have e : (leadGo m m[0]!.length).2.length = (leadF m).1.length := by
   have := L2; unfold leadF at this ⊢; exact this
  rw [e] at this
  exact this
theorem kern_shape (m : List (List Int)) (rows cols : List Int) (all : Int) (n : Nat) : ∀ g, kernGo m rows cols all n g = ((List.range g).filter fun f : Nat => !(cols.any fun x => (f : Int) == x)).map fun f : Nat => primF (kvF m rows cols all f n)
 | 0 => rfl
 | g + 1 => by
  rw [List.range_succ, List.filter_append, List.map_append, ← kern_shape m rows cols all n g]
  simp only [kernGo]
  cases h : (cols.any fun x => (g : Int) == x)
  ·rw [if_neg (by simp)]
   simp [h]
  ·rw [if_pos rfl]
   simp [h]
theorem kv_at {m : List (List Int)} {rows cols : List Int} {all : Int} {f n k : Nat} (hc : Below n cols) (hnd : cols.Nodup) (hd : ∀ k, k < cols.length → -1000000000000 ≤ detF m rows (cols.set k f) ∧ detF m rows (cols.set k f) ≤ 1000000000000) (hk : k < cols.length) :
  ∀ q, k < q → q ≤ cols.length → (kvGo m rows cols all f n q)[cols[k]!.toNat]! = numK m rows cols all f k
 | 0, h, _ => by omega
 | q + 1, h, hq => by
  have hck := hc.at (i := k) hk
  have hl := kvGo_len m rows cols all f n q
  rw [kv_step (hd q (by omega))]
  by_cases e : k = q
  ·subst e
   exact set_at (by omega)
  ·rw [set_ne (fun he => e (by
    have hcq := hc.at (i := q) (by omega)
    exact (nodup_at hnd (by omega) hk (show cols[q]! = cols[k]! by omega)).symm))]
   exact kv_at hc hnd hd hk q (by omega) (by omega)
theorem set_split {α : Type} {l : List α} {k : Nat} {x : α} (h : k < l.length) : l.set k x = l.take k ++ x :: l.drop (k + 1) := by
 rw [List.set_eq_take_append_cons_drop, if_pos h]
theorem cramer_row {m : List (List Int)} {R : List Nat} {C : List Int} {n k : Nat} {z : Nat → Int} (hR : ∀ r ∈ R, r < m.length) (hk : k < C.length) (hz : ∀ i, i < m.length → sum (fun j => m[i]![j]! * z j) n = 0) :
  sum (fun j => z j * D R ((C.set k (j : Nat)).map (cl m))) n = 0 := by
 have h1 := Go.La.Lin.sum (D_lin R) ((C.take k).map (cl m)) ((C.drop (k + 1)).map (cl m)) (fun j => cl m (j : Nat)) z n
 have h2 := D_agree (R := R) (x := fun r => sum (fun t => z t * cl m (t : Nat) r) n) (y := fun _ => 0) (fun r hr => by
  have := hz r (hR r hr)
  rw [← this]
  exact sum_congr _ fun j _ => by simp only [cl, Int.toNat_natCast]; exact Int.mul_comm _ _) ((C.take k).map (cl m)) ((C.drop (k + 1)).map (cl m))
 rw [Go.La.Lin.zero (D_lin R)] at h2
 rw [h2] at h1
 rw [h1]
 exact sum_congr _ fun j _ => by rw [set_split hk, List.map_append, List.map_cons]
theorem set_twice {m : List (List Int)} {R : List Nat} {C : List Int} {k l : Nat} (hk : k < C.length) (hl : l < C.length) (hkl : l ≠ k) : D R ((C.set k C[l]!).map (cl m)) = 0 := by
 have hnd : ¬ (C.set k C[l]!).Nodup := fun hn => by
  have h1 : (C.set k C[l]!)[k]! = C[l]! := set_at hk
  have h2 : (C.set k C[l]!)[l]! = C[l]! := set_ne (Ne.symm hkl)
  exact hkl (nodup_at hn (by simpa using hl) (by simpa using hk) (by rw [h1, h2]))
 obtain ⟨P, a, M, Q, e⟩ := Go.La.not_nodup hnd
 rw [e, List.map_append, List.map_cons, List.map_append, List.map_cons]
 have := (D_alt R).twice (P.map (cl m)) (M.map (cl m)) (Q.map (cl m)) (cl m a)
 simpa using this
theorem kern_one {m : List (List Int)} (hV : Valid m) {f : Nat} (hf : f < m[0]!.length) (hnf : ¬ (f : Int) ∈ (leadF m).2) (hall : ∀ j : Nat, j < m[0]!.length → j ≠ f → (j : Int) ∈ (leadF m).2) {z : Nat → Int} (hz : ∀ i, i < m.length → sum (fun j => m[i]![j]! * z j) m[0]!.length = 0) :
  0 < amtF (detF m (leadF m).1 (leadF m).2) ∧ ∀ j, j < m[0]!.length → amtF (detF m (leadF m).1 (leadF m).2) * z j = z f * (kvF m (leadF m).1 (leadF m).2 (detF m (leadF m).1 (leadF m).2) f m[0]!.length)[j]! := by
 obtain ⟨L1, L2, L3, L4⟩ := lead_len hV
 have hnd : (leadF m).2.Nodup := lead_cols_nodup m m[0]!.length
 have hDne : detF m (leadF m).1 (leadF m).2 ≠ 0 := lead_ne m m[0]!.length
 obtain ⟨R, hR⟩ : ∃ R, R = (leadF m).1 := ⟨_, rfl⟩
 obtain ⟨C, hC⟩ : ∃ C, C = (leadF m).2 := ⟨_, rfl⟩
 obtain ⟨n, hn⟩ : ∃ n, n = m[0]!.length := ⟨_, rfl⟩
 rw [← hR] at L1 L2 L3 hDne ⊢
 rw [← hC] at L2 L4 hnd hDne hnf hall ⊢
 rw [← hn] at hf hall hz L4 ⊢
 have hw : Wide n m := by rw [hn]; exact hV.wide
 have hB : ∀ k j : Nat, j < n → Below n (C.set k j) := fun k j hj x hx => by
  rcases List.mem_or_eq_of_mem_set hx with h' | h'
  ·exact L4 x h'
  ·omega
 have hdet : ∀ k j : Nat, j < n → detF m R (C.set k j) = D (R.map Int.toNat) ((C.set k j).map (cl m)) := fun k j hj => det_D hw hV.slight L3 (hB k j hj) L1 (by simp; omega)
 have hbd : ∀ cols, Below n cols → cols.length ≤ 6 → -1000000000000 ≤ detF m R cols ∧ detF m R cols ≤ 1000000000000 := fun cols hc hcl => by
  obtain ⟨e1, e2, e3⟩ := det_eq m n hw hV.slight R cols L3 hc L1 hcl
  have : (96 : Int) ^ R.length ≤ 1000000000000 := by
   have h : R.length = 0 ∨ R.length = 1 ∨ R.length = 2 ∨ R.length = 3 ∨ R.length = 4 ∨ R.length = 5 ∨ R.length = 6 := by omega
   rcases h with h | h | h | h | h | h | h <;> rw [h] <;> decide
  omega
 obtain ⟨A, hA⟩ : ∃ A, A = detF m R C := ⟨_, rfl⟩
 have hAD := det_D hw hV.slight L3 L4 L1 L2
 rw [← hA] at hAD hDne ⊢
 have hAb := hbd C L4 (by omega)
 rw [← hA] at hAb
 have hamt : amtF A = if A < 0 then -A else A := by
  have e : w64 (-A) = -A := wrap_in (by omega) (by omega)
  rw [amtF, e]; split <;> omega
 have hpos : 0 < amtF A := by rw [hamt]; split <;> omega
 refine ⟨hpos, fun j hj => ?_⟩
 have hfC : ∀ x ∈ C, x.toNat ≠ f := fun x hx e => hnf (by have := L4 x hx; rw [show (f : Int) = x by omega]; exact hx)
 by_cases hjf : j = f
 ·subst hjf
  unfold kvF
  rw [kv_free hj hfC C.length (Nat.le_refl _), Int.mul_comm]
 obtain ⟨k, hk, ek⟩ := List.mem_iff_getElem.1 (hall j hj hjf)
 have ek : C[k]! = (j : Int) := by rw [getElem!_pos C k hk]; exact ek
 have hkv := kv_at (m := m) (rows := R) (all := A) (f := f) L4 hnd (fun q _ => hbd _ (hB q f hf) (by simp; omega)) hk C.length hk (Nat.le_refl _)
 rw [ek, show ((j : Int)).toNat = j from rfl] at hkv
 unfold kvF
 rw [hkv]
 have hcr := cramer_row (m := m) (R := R.map Int.toNat) (C := C) (n := n) (k := k) (z := z) (fun r hr => by
  obtain ⟨x, hx, rfl⟩ := List.mem_map.1 hr
  have := L3 x hx
  omega) hk hz
 rw [sum_two (c := j) (d := f) hj hf hjf (fun q hq h1 h2 => by
  obtain ⟨l, hl, el⟩ := List.mem_iff_getElem.1 (hall q hq h2)
  have el : C[l]! = (q : Int) := by rw [getElem!_pos C l hl]; exact el
  have hlk : l ≠ k := fun e => by subst e; omega
  have := set_twice (m := m) (R := R.map Int.toNat) hk hl hlk
  rw [el] at this
  rw [this, Int.mul_zero])] at hcr
 have hself : C.set k ((j : Nat) : Int) = C := by
  rw [← ek, getElem!_pos C k hk]
  exact List.set_getElem_self hk
 rw [hself, ← hAD, ← hdet k f hf] at hcr
 unfold numK
 rw [hamt]
 split
 ·rw [Int.neg_mul, Int.mul_comm A]; omega
 ·rw [Int.mul_neg, Int.mul_comm A]; omega
end Go.AM
namespace Go.AM
open Go Go.Proofs Go.RowKit
open Go.La (sum sum_congr sum_add sum_one)
def kernV (m : List (List Int)) : List (List Int) := kernGo m (leadF m).1 (leadF m).2 (detF m (leadF m).1 (leadF m).2) m[0]!.length m[0]!.length
theorem kern_single {m : List (List Int)} (hV : Valid m) {v : List Int} (h : kernV m = [v]) : v.length = m[0]!.length ∧ (∀ x ∈ v, -1000000000000 ≤ x ∧ x ≤ 1000000000000) ∧ gcdF v = 1 ∧ (∀ i, i < m.length → sum (fun j => m[i]![j]! * v[j]!) m[0]!.length = 0) ∧
  ∀ z : Nat → Int, (∀ i, i < m.length → sum (fun j => m[i]![j]! * z j) m[0]!.length = 0) → ∃ a b : Int, 0 < a ∧ ∀ j, j < m[0]!.length → a * z j = b * v[j]! := by
 have hk := (kern_ok hV).1
 change KernOk m (kernV m) at hk
 rw [h] at hk
 have hv : v ∈ [v] := List.mem_singleton.2 rfl
 refine ⟨hk.wide v hv, hk.bound v hv, hk.one v hv, hk.zero v hv, fun z hz => ?_⟩
 have hs := kern_shape m (leadF m).1 (leadF m).2 (detF m (leadF m).1 (leadF m).2) m[0]!.length m[0]!.length
 change kernV m = _ at hs
 rw [h] at hs
 obtain ⟨f, hfl⟩ : ∃ f, (List.range m[0]!.length).filter (fun f : Nat => !((leadF m).2.any fun x => (f : Int) == x)) = [f] := by
  have := congrArg List.length hs
  rw [List.length_map] at this
  exact List.length_eq_one_iff.1 (by simpa using this.symm)
 rw [hfl] at hs
 have hvf : v = primF (kvF m (leadF m).1 (leadF m).2 (detF m (leadF m).1 (leadF m).2) f m[0]!.length) := by simpa using hs
 have hmem : ∀ j, j ∈ (List.range m[0]!.length).filter (fun f : Nat => !((leadF m).2.any fun x => (f : Int) == x)) ↔ j = f := fun j => by rw [hfl]; simp
 have hf1 := (hmem f).2 rfl
 rw [List.mem_filter, List.mem_range] at hf1
 have hany : ∀ j : Nat, ((leadF m).2.any fun x => (j : Int) == x) = true ↔ (j : Int) ∈ (leadF m).2 := fun j => by
  rw [List.any_eq_true]
  exact ⟨fun ⟨x, hx, e⟩ => by rw [beq_iff_eq.1 e]; exact hx, fun hx => ⟨_, hx, beq_self_eq_true _⟩⟩
 have hnf : ¬ (f : Int) ∈ (leadF m).2 := fun hh => by
  have := (hany f).2 hh
  rw [this] at hf1; simp at hf1
 have hall : ∀ j : Nat, j < m[0]!.length → j ≠ f → (j : Int) ∈ (leadF m).2 := fun j hj hjf => by
  cases hb : ((leadF m).2.any fun x => (j : Int) == x)
  ·exact (hjf ((hmem j).1 (by rw [List.mem_filter, List.mem_range]; exact ⟨hj, by rw [hb]; rfl⟩))).elim
  ·exact (hany j).1 hb
 obtain ⟨h1, h2⟩ := kern_one hV hf1.1 hnf hall hz
 obtain ⟨L1, L2, L3, L4⟩ := lead_len hV
 have hfC : ∀ x ∈ (leadF m).2, x.toNat ≠ f := fun x hx e => hnf (by have := L4 x hx; rw [show (f : Int) = x by omega]; exact hx)
 have hkf : (kvF m (leadF m).1 (leadF m).2 (detF m (leadF m).1 (leadF m).2) f m[0]!.length)[f]! = amtF (detF m (leadF m).1 (leadF m).2) := kv_free hf1.1 hfC _ (Nat.le_refl _)
 have hkl : (kvF m (leadF m).1 (leadF m).2 (detF m (leadF m).1 (leadF m).2) f m[0]!.length).length = m[0]!.length := kvGo_len _ _ _ _ _ _ _
 generalize kvF m (leadF m).1 (leadF m).2 (detF m (leadF m).1 (leadF m).2) f m[0]!.length = kv at *
 generalize amtF (detF m (leadF m).1 (leadF m).2) = a at *
 have hg : 0 < gcdF kv := by
  have := gcdN_dvd (l := kv) kv.length f (by omega)
  rcases Nat.eq_zero_or_pos (gcdF kv) with h0 | h0
  ·unfold gcdF at h0
   rw [h0] at this
   have := Nat.eq_zero_of_zero_dvd this
   omega
  ·exact h0
 refine ⟨a, z f * gcdF kv, h1, fun j hj => ?_⟩
 rw [h2 j hj, prim_at hg (j := j), ← hvf, Int.mul_assoc]
def sprGo (p : Nat → Bool) (v : List Int) : Nat → List Int × Nat
 | 0 => ([], 0)
 | i + 1 => if p i then ((sprGo p v i).1 ++ [v[(sprGo p v i).2]!], (sprGo p v i).2 + 1) else ((sprGo p v i).1 ++ [0], (sprGo p v i).2)
def inS (p : Nat → Bool) (n : Nat) : List Nat := (List.range n).filter p
theorem inS_succ (p : Nat → Bool) (n : Nat) : inS p (n + 1) = inS p n ++ (if p n then [n] else []) := by
 unfold inS
 rw [List.range_succ, List.filter_append]
 congr 1
 cases h : p n
 ·rw [List.filter_cons, if_neg (by rw [h]; simp)]; rfl
 ·rw [List.filter_cons, if_pos h]; rfl
theorem spr_len (p : Nat → Bool) (v : List Int) : ∀ n, (sprGo p v n).1.length = n ∧ (sprGo p v n).2 = (inS p n).length
 | 0 => ⟨rfl, rfl⟩
 | n + 1 => by
  obtain ⟨h1, h2⟩ := spr_len p v n
  unfold sprGo
  rw [inS_succ]
  cases h : p n
  ·simp [h1, h2]
  ·simp [h1, h2]
theorem bang_l {l : List Int} {x : Int} {i : Nat} (h : i < l.length) : (l ++ [x])[i]! = l[i]! := by
 rw [getElem!_pos (l ++ [x]) i (by simp; omega), getElem!_pos l i h, List.getElem_append_left h]
theorem bang_e {l : List Int} {x : Int} : (l ++ [x])[l.length]! = x := by
 rw [getElem!_pos (l ++ [x]) l.length (by simp), List.getElem_append_right (Nat.le_refl _)]; simp
theorem bang_ln {l : List Nat} {x i : Nat} (h : i < l.length) : (l ++ [x])[i]! = l[i]! := by
 rw [getElem!_pos (l ++ [x]) i (by simp; omega), getElem!_pos l i h, List.getElem_append_left h]
theorem bang_en {l : List Nat} {x : Nat} : (l ++ [x])[l.length]! = x := by
 rw [getElem!_pos (l ++ [x]) l.length (by simp), List.getElem_append_right (Nat.le_refl _)]; simp
theorem spr_sum (p : Nat → Bool) (v : List Int) (g : Nat → Int) : ∀ n, sum (fun i => (sprGo p v n).1[i]! * g i) n = sum (fun k => v[k]! * g (inS p n)[k]!) (inS p n).length
 | 0 => rfl
 | n + 1 => by
  have ih := spr_sum p v g n
  obtain ⟨h1, h2⟩ := spr_len p v n
  have hd : ∀ x : Int, sum (fun i => ((sprGo p v n).1 ++ [x])[i]! * g i) (n + 1) = sum (fun i => (sprGo p v n).1[i]! * g i) n + x * g n := fun x => by
   simp only [sum]
   rw [sum_congr n (G := fun i => (sprGo p v n).1[i]! * g i) (fun i hi => by rw [bang_l (by omega)])]
   have e := bang_e (l := (sprGo p v n).1) (x := x)
   rw [h1] at e
   rw [e]
  rw [inS_succ]
  cases h : p n
  ·rw [show (sprGo p v (n + 1)).1 = (sprGo p v n).1 ++ [0] by rw [sprGo, h]; rfl, hd, ih]
   simp
  ·rw [show (sprGo p v (n + 1)).1 = (sprGo p v n).1 ++ [v[(sprGo p v n).2]!] by rw [sprGo, h]; rfl, hd, ih, if_pos rfl, List.length_append, List.length_singleton]
   simp only [sum]
   rw [bang_en, h2]
   congr 1
   exact sum_congr _ fun k hk => by rw [bang_ln hk]
def turnS (c : List (List Int)) (p : Nat → Bool) : List (List Int) := (List.range c[0]!.length).map fun r => (inS p c.length).map fun i => c[i]![r]!
structure ChangeM (c : List (List Int)) : Prop where
 valid : Valid c
 six : c.length ≤ 6
theorem mem_inS {p : Nat → Bool} {n i : Nat} : i ∈ inS p n ↔ i < n ∧ p i = true := by
 unfold inS
 rw [List.mem_filter, List.mem_range]
theorem inS_at {p : Nat → Bool} {n k : Nat} (h : k < (inS p n).length) : (inS p n)[k]! < n ∧ p (inS p n)[k]! = true := by
 rw [getElem!_pos _ k h]
 exact mem_inS.1 (List.getElem_mem h)
theorem inS_len (p : Nat → Bool) (n : Nat) : (inS p n).length ≤ n := by
 unfold inS
 have := List.length_filter_le p (List.range n)
 rw [List.length_range] at this; exact this
theorem turn_at {c : List (List Int)} {p : Nat → Bool} {r : Nat} (h : r < c[0]!.length) : (turnS c p)[r]! = (inS p c.length).map fun i => c[i]![r]! := by
 rw [getElem!_pos _ r (by simpa [turnS] using h)]
 simp [turnS]
theorem turn_len (c : List (List Int)) (p : Nat → Bool) : (turnS c p).length = c[0]!.length := by simp [turnS]
theorem turn_el {c : List (List Int)} {p : Nat → Bool} {r k : Nat} (h : r < c[0]!.length) (hk : k < (inS p c.length).length) : (turnS c p)[r]![k]! = c[(inS p c.length)[k]!]![r]! := by
 rw [turn_at h, getElem!_pos _ k (by simpa using hk), List.getElem_map, getElem!_pos (inS p c.length) k hk]
theorem turn_valid {c : List (List Int)} {p : Nat → Bool} (h : ChangeM c) (hp : 0 < (inS p c.length).length) : Valid (turnS c p) := by
 have hv := h.valid
 have h6 := h.six
 have hl := inS_len p c.length
 have hc := hv.cpos
 have e0 : (turnS c p)[0]!.length = (inS p c.length).length := by rw [turn_at hc, List.length_map]
 refine ⟨by rw [turn_len]; exact hc, by rw [turn_len]; exact hv.cle, by rw [e0]; exact hp, by rw [e0]; omega, by rw [e0]; omega, fun row hr => ?_⟩
 obtain ⟨r, hr', rfl⟩ := List.mem_map.1 hr
 rw [List.mem_range] at hr'
 refine ⟨by rw [e0, List.length_map], fun x hx => ?_⟩
 obtain ⟨i, hi, rfl⟩ := List.mem_map.1 hx
 have hi := (mem_inS.1 hi).1
 have hrow := hv.row c[i]! (by rw [getElem!_pos c i hi]; exact List.getElem_mem hi)
 rw [getElem!_pos c[i]! r (by rw [hrow.1]; exact hr')]
 exact hrow.2 _ (List.getElem_mem _)
def semF (c : List (List Int)) (p : Nat → Bool) : Option (List Int) :=
 match kernV (turnS c p) with
 | [v] => if v.all (fun x => decide (0 < x)) then some (sprGo p v c.length).1 else none
 | _ => none
theorem semF_some {c : List (List Int)} {p : Nat → Bool} {y : List Int} (h : semF c p = some y) : ∃ v, kernV (turnS c p) = [v] ∧ (∀ x ∈ v, 0 < x) ∧ y = (sprGo p v c.length).1 := by
 unfold semF at h
 split at h
 ·rename_i v hv
  split at h
  ·rename_i hp
   rw [List.all_eq_true] at hp
   exact ⟨v, hv, fun x hx => of_decide_eq_true (hp x hx), by simpa using h.symm⟩
  ·cases h
 ·cases h
theorem spr_at (p : Nat → Bool) (v : List Int) : ∀ n i, i < n → (sprGo p v n).1[i]! = if p i then v[(inS p i).length]! else 0
 | 0, i, h => by omega
 | n + 1, i, h => by
  obtain ⟨h1, h2⟩ := spr_len p v n
  by_cases hi : i < n
  ·have ih := spr_at p v n i hi
   rw [← ih]
   cases hp : p n
   ·rw [show (sprGo p v (n + 1)).1 = (sprGo p v n).1 ++ [0] by rw [sprGo, hp]; rfl, bang_l (by omega)]
   ·rw [show (sprGo p v (n + 1)).1 = (sprGo p v n).1 ++ [v[(sprGo p v n).2]!] by rw [sprGo, hp]; rfl, bang_l (by omega)]
  ·obtain rfl : i = n := by omega
   cases hp : p i
   ·have e := bang_e (l := (sprGo p v i).1) (x := 0)
    rw [h1] at e
    rw [show (sprGo p v (i + 1)).1 = (sprGo p v i).1 ++ [0] by rw [sprGo, hp]; rfl, e]; rfl
   ·have e := bang_e (l := (sprGo p v i).1) (x := v[(sprGo p v i).2]!)
    rw [h1] at e
    rw [show (sprGo p v (i + 1)).1 = (sprGo p v i).1 ++ [v[(sprGo p v i).2]!] by rw [sprGo, hp]; rfl, e, h2, if_pos rfl]
theorem inS_lt {p : Nat → Bool} {i : Nat} (hp : p i = true) : ∀ n, i < n → (inS p i).length < (inS p n).length
 | 0, h => by omega
 | n + 1, h => by
  rw [inS_succ, List.length_append]
  by_cases hi : i < n
  ·have := inS_lt hp n hi; omega
  ·obtain rfl : i = n := by omega
   rw [hp, if_pos rfl]; simp
theorem sem_flow {c : List (List Int)} {p : Nat → Bool} {y : List Int} (hc : ChangeM c) (hp : 0 < (inS p c.length).length) (h : semF c p = some y) :
  y.length = c.length ∧ (∀ i, i < c.length → 0 ≤ y[i]! ∧ y[i]! ≤ 1000000000000) ∧ (∀ i, i < c.length → (0 < y[i]! ↔ p i = true)) ∧ ∀ r, r < c[0]!.length → sum (fun i => y[i]! * c[i]![r]!) c.length = 0 := by
 obtain ⟨v, hk, hpos, rfl⟩ := semF_some h
 have hV := turn_valid hc hp
 obtain ⟨k1, k2, _, k4, _⟩ := kern_single hV hk
 have e0 : (turnS c p)[0]!.length = (inS p c.length).length := by rw [turn_at hc.valid.cpos, List.length_map]
 rw [e0] at k1 k4
 rw [turn_len] at k4
 have hat : ∀ i, i < c.length → p i = true → 0 < v[(inS p i).length]! ∧ v[(inS p i).length]! ≤ 1000000000000 := fun i hi hpi => by
  have := inS_lt hpi c.length hi
  have hm : v[(inS p i).length]! ∈ v := by rw [getElem!_pos v _ (by omega)]; exact List.getElem_mem _
  exact ⟨hpos _ hm, (k2 _ hm).2⟩
 refine ⟨(spr_len p v c.length).1, fun i hi => ?_, fun i hi => ?_, fun r hr => ?_⟩
 ·rw [spr_at p v _ i hi]
  split
  ·rename_i hpi
   have := hat i hi hpi; omega
  ·omega
 ·rw [spr_at p v _ i hi]
  cases hpi : p i
  ·simp
  ·simp only [if_true, iff_true]
   exact (hat i hi hpi).1
 ·rw [spr_sum p v (fun i => c[i]![r]!) c.length]
  have := k4 r hr
  rw [← this]
  exact sum_congr _ fun k hk => by rw [turn_el hr hk]; exact Int.mul_comm _ _
theorem sub_sum (p : Nat → Bool) (g : Nat → Int) : ∀ n, (∀ i, i < n → p i = false → g i = 0) → sum (fun k => g (inS p n)[k]!) (inS p n).length = sum g n
 | 0, _ => rfl
 | n + 1, h => by
  have ih := sub_sum p g n fun i hi => h i (by omega)
  rw [inS_succ]
  cases hp : p n
  ·simp only [sum]
   rw [h n (by omega) hp, ← ih]
   simp
  ·rw [if_pos rfl, List.length_append, List.length_singleton]
   simp only [sum]
   rw [bang_en, ← ih]
   congr 1
   exact sum_congr _ fun k hk => by rw [bang_ln hk]
theorem sem_within {c : List (List Int)} {p q : Nat → Bool} {x y : List Int} (hc : ChangeM c) (hp : 0 < (inS p c.length).length) (hq : 0 < (inS q c.length).length) (h1 : semF c p = some y) (h2 : semF c q = some x)
  (hw : ∀ i, i < c.length → q i = true → p i = true) : ∀ i, i < c.length → p i = q i := by
 obtain ⟨x1, x2, x3, x4⟩ := sem_flow hc hq h2
 obtain ⟨v, hk, hpos, _⟩ := semF_some h1
 have hV := turn_valid hc hp
 obtain ⟨k1, k2, _, k4, k5⟩ := kern_single hV hk
 have e0 : (turnS c p)[0]!.length = (inS p c.length).length := by rw [turn_at hc.valid.cpos, List.length_map]
 rw [e0] at k1 k5
 obtain ⟨a, b, ha, hab⟩ := k5 (fun k => x[(inS p c.length)[k]!]!) (fun r hr => by
  rw [turn_len] at hr
  have hs := sub_sum p (fun i => x[i]! * c[i]![r]!) c.length (fun i hi hpi => by
   have hqi : q i = false := by
    cases e : q i
    ·rfl
    ·rw [hw i hi e] at hpi; cases hpi
   have h0 := x2 i hi
   have h3 := x3 i hi
   rw [hqi] at h3
   have : ¬ 0 < x[i]! := fun hh => by have := h3.1 hh; cases this
   have e : x[i]! = 0 := by omega
   show x[i]! * c[i]![r]! = 0
   rw [e, Int.zero_mul])
  rw [x4 r hr] at hs
  rw [← hs]
  exact sum_congr _ fun k hk => by rw [turn_el hr hk]; exact Int.mul_comm _ _)
 have hb : 0 < b := by
  obtain ⟨i, hi⟩ : ∃ i, i ∈ inS q c.length := ⟨(inS q c.length)[0]!, by rw [getElem!_pos _ 0 hq]; exact List.getElem_mem hq⟩
  obtain ⟨hi, hqi⟩ := mem_inS.1 hi
  have hpi := hw i hi hqi
  obtain ⟨k, hk2, ek⟩ := List.mem_iff_getElem.1 (mem_inS.2 ⟨hi, hpi⟩)
  have ek : (inS p c.length)[k]! = i := by rw [getElem!_pos _ k hk2]; exact ek
  have h4 := hab k hk2
  simp only [ek] at h4
  have h5 := (x3 i hi).2 hqi
  have h6 : 0 < v[k]! := hpos _ (by rw [getElem!_pos v k (by omega)]; exact List.getElem_mem _)
  have h7 : 0 < a * x[i]! := Int.mul_pos ha h5
  rw [h4] at h7
  exact Int.pos_of_mul_pos_left h7 h6
 intro i hi
 cases hpi : p i
 ·cases hqi : q i
  ·rfl
  ·rw [hw i hi hqi] at hpi; cases hpi
 ·obtain ⟨k, hk2, ek⟩ := List.mem_iff_getElem.1 (mem_inS.2 ⟨hi, hpi⟩)
  have ek : (inS p c.length)[k]! = i := by rw [getElem!_pos _ k hk2]; exact ek
  have h4 := hab k hk2
  simp only [ek] at h4
  have h6 : 0 < v[k]! := hpos _ (by rw [getElem!_pos v k (by omega)]; exact List.getElem_mem _)
  have h7 : 0 < b * v[k]! := Int.mul_pos hb h6
  rw [← h4] at h7
  have h8 : 0 < x[i]! := Int.pos_of_mul_pos_right h7 ha
  exact ((x3 i hi).1 h8).symm
end Go.AM
namespace Go.AM
open Go Go.Proofs Go.RowKit
open Go.La (sum sum_congr sum_add sum_one sum_smul)
end Go.AM
namespace Go.AM
open Go Go.Proofs Go.RowKit
open Go.La (sum sum_congr sum_add sum_one sum_smul D)
end Go.AM
