/- MxZ MxT MxU MxV MxZa MxH MxJ MxP KI MxQ MxZb -/
import Derived.Test.Ytoglpcfaojcmeaag18
import Derived.Test.Ytoglpcfaojcmeaag13
import Derived.Test.Ytoglpcfaojcmeaag15
import Derived.Test.Ytoglpcfaojcmeaag12
import Derived.Test.Ytoglpcfaojcmeaag11
namespace Go.AM
open Go Go.Proofs Go.RowKit
set_option maxRecDepth 100000
set_option maxHeartbeats 8000000
open Go.La (sum sum_congr)
theorem ofG_new {c : List (List Int)} (hc : ChangeM c) {s : Nat} (hs : s < 2 ^ c.length) {y : List Int} (hy : semB c s = some y) : ¬ y ∈ ofG c s := fun hm => by
 unfold ofG at hm
 rw [List.mem_filterMap] at hm
 obtain ⟨t, ht, hty⟩ := hm
 rw [List.mem_range] at ht
 obtain ⟨s0, s1⟩ := semB_some hy
 obtain ⟨t0, t1⟩ := semB_some hty
 obtain ⟨_, _, a3, _⟩ := sem_flow hc (bits_some c.length hc.six s hs s0) s1
 obtain ⟨_, _, b3, _⟩ := sem_flow hc (bits_some c.length hc.six t (by omega) t0) t1
 have : s = t := by
  apply Nat.eq_of_testBit_eq
  intro i
  by_cases hi : i < c.length
  ·have := (a3 i hi).symm.trans (b3 i hi)
   cases h1 : s.testBit i <;> cases h2 : t.testBit i <;> simp [h1, h2] at this <;> rfl
  ·have e : ∀ u, u < 2 ^ c.length → u.testBit i = false := fun u hu => Nat.testBit_lt_two_pow (Nat.lt_of_lt_of_le hu (Nat.pow_le_pow_right (by omega) (by omega)))
   rw [e s hs, e t (by omega)]
 omega
theorem ofG_row {c : List (List Int)} (hc : ChangeM c) {s : Nat} (hs : s ≤ 2 ^ c.length) : ∀ y ∈ ofG c s, y.length = c.length := fun y hm => by
 unfold ofG at hm
 rw [List.mem_filterMap] at hm
 obtain ⟨t, ht, hty⟩ := hm
 rw [List.mem_range] at ht
 obtain ⟨t0, t1⟩ := semB_some hty
 exact (sem_flow hc (bits_some c.length hc.six t (by omega) t0) t1).1
theorem asc_snoc (l : List (List Int)) (y : List Int) : ascF (ascF l ++ [y]) = ascF (l ++ [y]) :=
 asc_one (asc_asc _) (asc_asc _) ((asc_perm _).trans (((asc_perm l).append_right [y]).trans (asc_perm _).symm))
def ofR0 (c : List (List Int)) : AV := if schF c = 0 then .tup [vm 0 (ofS c), vi 0] else .tup [.nil, vi (schF c)]
theorem con_rOf11 (c : List (List Int)) (hF : Fits c) : Con Try.prog 15 [vm 0 c] [] fun r _ => r = ofR0 c := by
 refine Con.intro Try.func15 rfl Try.ntmps15 Try.results15 (by kernel_rfl) (by simp) 0 (by simp) ?_
 simp only [go_sem]
 refine CallU.free (con_r11Check c hF) (by simp only [go_sem]) (by simp only [go_sem]) ?_
 rintro r bx rfl
 by_cases h : schF c = 0
 case neg =>
  have hb : (schF c != 0) = true := bne_iff_ne.2 h
  simp only [go_sem, hb, ofR0, h]
 have hc := sch_change h
 have h6 := hc.six
 have hpow : 1 ≤ 2 ^ c.length ∧ 2 ^ c.length ≤ 64 := ⟨Nat.one_le_two_pow, show 2 ^ c.length ≤ 2 ^ 6 from Nat.pow_le_pow_right (by omega) h6⟩
 have hsh := shl_at c.length h6
 simp only [go_sem] at hsh
 obtain ⟨N, hN⟩ : ∃ N, N = 2 ^ c.length := ⟨_, rfl⟩
 have hall := ofG_all c
 rw [← hN] at hsh hpow hall
 simp only [go_sem, h]
 refine LoopK.intro (fun s : Nat => ⟨32, [(0, vm 0 c), (5, vm 0 (ascF (ofG c s))), (6, vi s)], []⟩)
  (fun s => N - s) (fun s => 1 ≤ s ∧ s ≤ N) 1 ⟨by omega, by omega⟩ ?_ ?_
 ·simp only [go_sem, ofG_one, show ascF [] = [] from (asc_perm []).eq_nil, List.map_nil]
 rintro s ⟨hs1, hs2⟩
 have hlen := ofG_len c s
 have hnext := ofG_succ c s
 by_cases hlt : s < N
 ·have hw : IntKind.i64.wrap (s + 1) = s + 1 := wrap_in (by omega) (by omega)
  have hsb : semB c s = semF c fun i => s.testBit i := by unfold semB; rw [if_neg (by omega)]
  simp only [go_sem, hsh, hlt]
  refine CallU.free (con_with c hc s (by rw [← hN]; exact hlt) (by omega)) (by simp only [go_sem]) (by simp only [go_sem]) ?_
  rintro r bx rfl
  rw [← hsb]
  cases hb : semB c s with
  | none =>
   have e : ofG c (s + 1) = ofG c s := by rw [hnext, hb]; simp
   simp only [go_sem, supR, hw]
   refine roundK.intro (s + 1) ⟨by omega, by omega⟩ (by omega) ?_
   simp only [go_sem, e]
  | some y =>
   have e : ofG c (s + 1) = ofG c s ++ [y] := by rw [hnext, hb]
   have hnew := ofG_new hc (by rw [← hN]; exact hlt) hb
   have hrow := ofG_row hc (s := s) (by omega)
   obtain ⟨s0, s1⟩ := semB_some hb
   have hyl := (sem_flow hc (bits_some c.length h6 s (by rw [← hN]; exact hlt) s0) s1).1
   have hperm := asc_perm (ofG c s)
   have hput := con_put (ascF (ofG c s)) y (by rw [hperm.length_eq]; omega) (by omega) (fun x hx => by rw [hrow x (hperm.subset hx), hyl]) (asc_asc _) (fun hm => hnew (hperm.subset hm))
   rw [asc_snoc, ← e] at hput
   simp only [go_sem, supR]
   refine CallU.freeze hput (by simp only [go_sem]) (by simp only [go_sem]) ?_
   rintro r bx rfl
   simp only [go_sem, hw]
   refine roundK.freeze (fun _ => true) (s + 1) ⟨by omega, by omega⟩ (by omega) ?_
   simp only [go_sem]
 have hsN : s = N := by omega
 subst hsN
 rw [hall]
 simp only [go_sem, hsh, hlt, ofR0, h, ofS]
def zN (y : List Int) : Nat → Bool
 | 0 => true
 | k + 1 => zN y k && y[k]! == 0
theorem zN_iff {y : List Int} : ∀ k : Nat, zN y k = true ↔ ∀ i : Nat, i < k → y[i]! = 0
 | 0 => by simp [zN]
 | k + 1 => by
  rw [zN, Bool.and_eq_true, zN_iff k, beq_iff_eq]
  exact ⟨fun ⟨h1, h2⟩ i hi => by
   by_cases e : i = k
   ·subst e; exact h2
   ·exact h1 i (by omega), fun h => ⟨fun i hi => h i (by omega), h k (by omega)⟩⟩
theorem con_rHolds11 (c : List (List Int)) (y : List Int) (hF : Fits c) (hy : y.length ≤ 1000000) : Con Try.prog 18 [vm 0 c, vs 0 y] [] fun r _ => r = .sc (.bool (sflowF c y)) := by
 refine Con.intro Try.func18 rfl Try.ntmps18 Try.results18 (by kernel_rfl) (by simp) 0 (by simp) ?_
 simp only [go_sem]
 refine CallU.free (con_r11Check c hF) (by simp only [go_sem]) (by simp only [go_sem]) ?_
 rintro r bx rfl
 by_cases h : schF c = 0
 case neg =>
  have hb : (schF c != 0) = true := bne_iff_ne.2 h
  have e : sflowF c y = false := by unfold sflowF; rw [hb]; rfl
  simp only [go_sem, hb, e]
 have hc := sch_change h
 have hb : (schF c != 0) = false := by rw [h]; rfl
 by_cases h2 : y.length = c.length
 case neg =>
  have hb2 : (y.length != c.length) = true := bne_iff_ne.2 h2
  have e : sflowF c y = false := by unfold sflowF; rw [hb, hb2]; rfl
  simp only [go_sem, hb, h2, e]
 have hb2 : (y.length != c.length) = false := by rw [h2]; simp
 have e0 : sflowF c y = (!(y.any wBad) && (!(mxN y (y.length - 1) == 0) && !((transF c).any fun x => dotF y x != 0))) := by unfold sflowF; rw [hb, hb2]; rfl
 have h6 := hc.six
 have hp := hc.valid.pos
 simp only [go_sem, hb, h2]
 refine LoopK.intro (fun i : Nat => ⟨77, [(0, vm 0 c), (1, vs 0 y), (5, vb (zN y i)), (6, vi i)], []⟩)
  (fun i => c.length - i) (fun i => i ≤ c.length ∧ ∀ j, j < i → wBad y[j]! = false) 0 ⟨by omega, fun j hj => by omega⟩ ?_ ?_
 ·simp only [go_sem, zN]
 rintro i ⟨hi, hbad⟩
 by_cases hlt : i < c.length
 ·have hil : i < y.length := by omega
  have hg := getv hil
  have hw : IntKind.i64.wrap (i + 1) = i + 1 := wrap_in (by omega) (by omega)
  have hstop : wBad y[i]! = true → sflowF c y = false := fun hx => by rw [e0, any_stop hil hx]; rfl
  by_cases h3 : y[i]! < 0
  ·have e := hstop (by unfold wBad; rw [decide_eq_true h3, Bool.true_or])
   simp only [go_sem, h2, hlt, hg, h3, e]
  by_cases h4 : 1099511627776 < y[i]!
  ·have e := hstop (by unfold wBad; rw [decide_eq_true h4, Bool.or_true])
   simp only [go_sem, h2, hlt, hg, h3, h4, e]
  have hok : ∀ j, j < i + 1 → wBad y[j]! = false := fun j hj => by
   by_cases hji : j = i
   ·subst hji; unfold wBad; rw [decide_eq_false h3, decide_eq_false h4]; rfl
   ·exact hbad j (by omega)
  have hz : zN y (i + 1) = (zN y i && y[i]! == 0) := rfl
  cases hzi : zN y i
  ·rw [hzi, Bool.false_and] at hz
   simp only [go_sem, h2, hlt, hg, h3, h4, hw]
   refine roundK.intro (i + 1) ⟨by omega, hok⟩ (by omega) ?_
   simp only [go_sem, hz]
  ·rw [hzi, Bool.true_and] at hz
   simp only [go_sem, h2, hlt, hg, h3, h4, hw]
   refine roundK.intro (i + 1) ⟨by omega, hok⟩ (by omega) ?_
   simp only [go_sem, hz]
 have hic : i = c.length := by omega
 subst hic
 have hany : y.any wBad = false := mxAnyNone fun j hj => hbad j (by omega)
 have hnn : ∀ j, j ≤ y.length - 1 → 0 ≤ y[j]! := fun j hj => by
  have := hbad j (by omega)
  unfold wBad at this
  rw [Bool.or_eq_false_iff, decide_eq_false_iff_not] at this; omega
 have hmz : zN y c.length = (mxN y (y.length - 1) == 0) := by
  rw [Bool.eq_iff_iff, zN_iff, beq_iff_eq, (mx_zero (y.length - 1) hnn).2]
  exact ⟨fun h i hi => h i (by omega), fun h i hi => h i (by omega)⟩
 rw [hany, ← hmz] at e0
 cases hzz : zN y c.length
 case true =>
  have e : sflowF c y = false := by rw [e0, hzz]; rfl
  simp only [go_sem, h2, hlt, e]
 have e1 : sflowF c y = !((transF c).any fun x => dotF y x != 0) := by rw [e0, hzz]; rfl
 have hg0 := getm hp
 simp only [go_sem, h2, hlt]
 refine LoopK.intro (fun r : Nat => ⟨77, [(0, vm 0 c), (1, vs 0 y), (7, vi r)], []⟩)
  (fun r => c[0]!.length - r) (fun r => r ≤ c[0]!.length ∧ ∀ j, j < r → dotF y (c.map fun x => x[j]!) = 0) 0 ⟨by omega, fun j hj => by omega⟩ ?_ ?_
 ·simp only [go_sem]
 rintro r ⟨hr, hz⟩
 have hcle := hc.valid.cle
 by_cases hrl : r < c[0]!.length
 ·have hwr : IntKind.i64.wrap (r + 1) = r + 1 := wrap_in (by omega) (by omega)
  simp only [go_sem, hp, hg0, hrl]
  refine LoopK.intro (fun i : Nat => ⟨77, [(0, vm 0 c), (1, vs 0 y), (7, vi r), (8, vi (dotN y (c.map fun x => x[r]!) i)), (9, vi i)], []⟩)
   (fun i => c.length - i) (fun i => i ≤ c.length) 0 (by omega) ?_ ?_
  ·simp only [go_sem, dotN]
  intro i hi
  by_cases hil : i < c.length
  ·have hiy : i < y.length := by omega
   have gy := getv hiy
   have gc := getm hil
   have hrow : r < c[i]!.length := by rw [(hc.valid.row _ (mem_bang hil)).1]; exact hrl
   have gr := getv hrow
   have hw : IntKind.i64.wrap (i + 1) = i + 1 := wrap_in (by omega) (by omega)
   have hd : IntKind.i64.wrap (dotN y (c.map fun x => x[r]!) i + IntKind.i64.wrap (y[i]! * c[i]![r]!)) = dotN y (c.map fun x => x[r]!) (i + 1) := by
    rw [dotN, col_at hil]; rfl
   simp only [go_sem, hil]
   refine DrawK.walk 14 mixed (by kernel_rfl) ?_
   simp only [go_sem, hiy, gy, hil, gc, hrow, gr, hd, hw]
   refine roundK.intro (i + 1) (by omega) (by omega) ?_
   simp only [go_sem]
  ·have hic : i = y.length := by omega
   have hdf : dotN y (c.map fun x => x[r]!) i = dotF y (c.map fun x => x[r]!) := by rw [hic]; rfl
   rw [hdf]
   by_cases hd0 : dotF y (c.map fun x => x[r]!) = 0
   ·have hd0b : (dotF y (c.map fun x => x[r]!) != 0) = false := by rw [hd0]; rfl
    simp only [go_sem, hil, hd0b, hwr]
    refine roundK.intro (r + 1) ⟨by omega, fun j hj => ?_⟩ (by omega) ?_
    ·by_cases hjr : j = r
     ·subst hjr; exact hd0
     ·exact hz j (by omega)
    ·simp only [go_sem]
   ·have hd0b : (dotF y (c.map fun x => x[r]!) != 0) = true := bne_iff_ne.2 hd0
    have e : sflowF c y = false := by
     rw [e1, Bool.not_eq_false', List.any_eq_true]
     exact ⟨_, List.mem_map.2 ⟨r, List.mem_range.2 hrl, rfl⟩, hd0b⟩
    simp only [go_sem, hil, hd0b, e]
 ·have e : sflowF c y = true := by
   rw [e1, anyS_false]; rfl
   intro x hx
   obtain ⟨j, hj, rfl⟩ := List.mem_map.1 hx
   rw [List.mem_range] at hj
   rw [hz j (by omega)]; rfl
  simp only [go_sem, hp, hg0, hrl, e]
end Go.AM
namespace Go.AM
open Go Go.Proofs Go.RowKit
open Go.La (sum sum_congr)
theorem sem_third {c : List (List Int)} {p q r : Nat → Bool} {x y z : List Int} {e : Nat} (hc : ChangeM c) (he : e < c.length) (hp : 0 < (inS p c.length).length) (hq : 0 < (inS q c.length).length) (hr : 0 < (inS r c.length).length)
  (h1 : semF c p = some x) (h2 : semF c q = some y) (h3 : semF c r = some z) (hqe : ∀ i, i < c.length → q i = true → p i = true ∨ i = e) (hre : ∀ i, i < c.length → r i = true → p i = true ∨ i = e)
  (n1 : ¬ ∀ i, i < c.length → p i = q i) (n2 : ¬ ∀ i, i < c.length → p i = r i) (n3 : ¬ ∀ i, i < c.length → q i = r i) : False := by
 obtain ⟨y1, y2, y3, y4⟩ := sem_flow hc hq h2
 obtain ⟨z1, z2, z3, z4⟩ := sem_flow hc hr h3
 have qe : q e = true := by
  cases hb : q e
  ·refine (n1 (sem_within hc hp hq h1 h2 fun i hi hi2 => ?_)).elim
   rcases hqe i hi hi2 with h | h
   ·exact h
   ·subst h; rw [hb] at hi2; cases hi2
  ·rfl
 have re : r e = true := by
  cases hb : r e
  ·refine (n2 (sem_within hc hp hr h1 h3 fun i hi hi2 => ?_)).elim
   rcases hre i hi hi2 with h | h
   ·exact h
   ·subst h; rw [hb] at hi2; cases hi2
  ·rfl
 have ye : 0 < y[e]! := (y3 e he).2 qe
 have ze : 0 < z[e]! := (z3 e he).2 re
 -- what vanishes at e
 obtain ⟨w, hw⟩ : ∃ w : Nat → Int, w = fun i => y[e]! * z[i]! - z[e]! * y[i]! := ⟨_, rfl⟩
 have hw0 : ∀ i, i < c.length → p i = false → w i = 0 := fun i hi hpi => by
  rw [hw]
  show y[e]! * z[i]! - z[e]! * y[i]! = 0
  by_cases h : i = e
  ·subst h; rw [Int.mul_comm]; omega
  ·have a1 : ¬ 0 < y[i]! := fun h' => by
    rcases hqe i hi ((y3 i hi).1 h') with h'' | h''
    ·rw [hpi] at h''; cases h''
    ·exact h h''
   have a2 : ¬ 0 < z[i]! := fun h' => by
    rcases hre i hi ((z3 i hi).1 h') with h'' | h''
    ·rw [hpi] at h''; cases h''
    ·exact h h''
   have b1 := (y2 i hi).1
   have b2 := (z2 i hi).1
   rw [show y[i]! = 0 by omega, show z[i]! = 0 by omega]; simp
 have hwf : ∀ k, k < c[0]!.length → sum (fun i => w i * c[i]![k]!) c.length = 0 := fun k hk => by
  have key : ∀ n, n ≤ c.length → sum (fun i => w i * c[i]![k]!) n = y[e]! * sum (fun i => z[i]! * c[i]![k]!) n - z[e]! * sum (fun i => y[i]! * c[i]![k]!) n := by
   intro n
   induction n with
   | zero => intro _; simp [sum]
   | succ n ih =>
    intro hn
    simp only [sum]
    rw [ih (by omega), hw]
    simp only [Int.sub_mul, Int.mul_add, Int.mul_assoc]
    omega
  rw [key _ (Nat.le_refl _), z4 k hk, y4 k hk]; simp
 obtain ⟨v, hk, hpos, _⟩ := semF_some h1
 have hV := turn_valid hc hp
 obtain ⟨k1, _, _, _, k5⟩ := kern_single hV hk
 have e0 : (turnS c p)[0]!.length = (inS p c.length).length := by rw [turn_at hc.valid.cpos, List.length_map]
 rw [e0] at k1 k5
 obtain ⟨a, b, ha, hab⟩ := k5 (fun k => w (inS p c.length)[k]!) (fun m hm => by
  rw [turn_len] at hm
  have hs := sub_sum p (fun i => w i * c[i]![m]!) c.length (fun i hi hpi => by
   show w i * c[i]![m]! = 0
   rw [hw0 i hi hpi, Int.zero_mul])
  rw [hwf m hm] at hs
  rw [← hs]
  exact sum_congr _ fun k hk => by rw [turn_el hm hk]; exact Int.mul_comm _ _)
 -- the sign is the same everywhere
 have hsg : (0 ≤ b ∧ ∀ i, i < c.length → 0 ≤ w i) ∨ (b ≤ 0 ∧ ∀ i, i < c.length → w i ≤ 0) := by
  have key : ∀ i, i < c.length → p i = true → ∃ v', 0 < v' ∧ a * w i = b * v' := fun i hi hpi => by
   obtain ⟨k, hk2, ek⟩ := List.mem_iff_getElem.1 (mem_inS.2 ⟨hi, hpi⟩)
   have ek : (inS p c.length)[k]! = i := by rw [getElem!_pos _ k hk2]; exact ek
   have h4 := hab k hk2
   simp only [ek] at h4
   exact ⟨v[k]!, hpos _ (by rw [getElem!_pos v k (by omega)]; exact List.getElem_mem _), h4⟩
  rcases Int.le_total 0 b with hb | hb
  ·refine .inl ⟨hb, fun i hi => ?_⟩
   cases hpi : p i
   ·rw [hw0 i hi hpi]; exact Int.le_refl _
   ·obtain ⟨v', hv', h4⟩ := key i hi hpi
    have : 0 ≤ a * w i := by rw [h4]; exact Int.mul_nonneg hb (by omega)
    exact Int.nonneg_of_mul_nonneg_right this ha
  ·refine .inr ⟨hb, fun i hi => ?_⟩
   cases hpi : p i
   ·rw [hw0 i hi hpi]; exact Int.le_refl _
   ·obtain ⟨v', hv', h4⟩ := key i hi hpi
    have h5 : 0 ≤ a * (- w i) := by rw [Int.mul_neg, h4, ← Int.neg_mul]; exact Int.mul_nonneg (by omega) (by omega)
    have := Int.nonneg_of_mul_nonneg_right h5 ha
    omega
 rcases hsg with ⟨_, h⟩ | ⟨_, h⟩
 ·refine n3 fun i hi => ?_
  refine (sem_within hc hr hq h3 h2 (fun i hi hqi => ?_) i hi).symm
  have h5 := h i hi
  rw [hw] at h5
  have h6 : 0 < z[e]! * y[i]! := Int.mul_pos ze ((y3 i hi).2 hqi)
  have h7 : 0 < y[e]! * z[i]! := by simp only at h5; omega
  exact (z3 i hi).1 (Int.pos_of_mul_pos_right h7 ye)
 ·refine n3 fun i hi => ?_
  refine sem_within hc hq hr h2 h3 (fun i hi hri => ?_) i hi
  have h5 := h i hi
  rw [hw] at h5
  have h6 : 0 < y[e]! * z[i]! := Int.mul_pos ye ((z3 i hi).2 hri)
  have h7 : 0 < z[e]! * y[i]! := by simp only at h5; omega
  exact (y3 i hi).1 (Int.pos_of_mul_pos_right h7 ze)
end Go.AM
namespace Go.AM
open Go Go.Proofs Go.RowKit
def pcN (s : Nat) : Nat := (List.range 6).countP fun i => s.testBit i
def okP (s t : Nat) : Bool := !(s &&& t == s) && !(s &&& t == t)
def okT (s t u : Nat) : Bool := decide (pcN s + 1 < pcN (s ||| t ||| u)) && (decide (pcN t + 1 < pcN (s ||| t ||| u)) && decide (pcN u + 1 < pcN (s ||| t ||| u)))
def okAdd (s : Nat) (ch : List Nat) : Bool := ch.all (okP s) && ch.all fun t => ch.all fun u => t == u || okT s t u
def bestW (w : Nat → Nat) : List Nat → List Nat → Nat
 | [], _ => 0
 | s :: r, ch => max (bestW w r ch) (if okAdd s ch then w s + bestW w r (s :: ch) else 0)
def fsum (f w : Nat → Nat) : List Nat → Nat
 | [] => 0
 | s :: r => f s * w s + fsum f w r
structure Apart6 (f : Nat → Nat) : Prop where
 one : ∀ s, f s = 0 ∨ f s = 1
 pair : ∀ s t, f s = 1 → f t = 1 → s ≠ t → okP s t = true
 three : ∀ s t u, f s = 1 → f t = 1 → f u = 1 → s ≠ t → s ≠ u → t ≠ u → okT s t u = true
theorem best_le {f : Nat → Nat} (h : Apart6 f) (w : Nat → Nat) : ∀ (r ch : List Nat), r.Nodup → (∀ t ∈ ch, f t = 1 ∧ ¬ t ∈ r) → fsum f w r ≤ bestW w r ch
 | [], _, _, _ => Nat.zero_le _
 | s :: r, ch, hn, hc => by
  rw [List.nodup_cons] at hn
  have h1 := best_le h w r ch hn.2 fun t ht => ⟨(hc t ht).1, fun hm => (hc t ht).2 (List.mem_cons_of_mem _ hm)⟩
  rw [fsum, bestW]
  rcases h.one s with hs | hs
  ·rw [hs]
   exact Nat.le_trans (by omega) (Nat.le_max_left _ _)
  ·have hok : okAdd s ch = true := by
    unfold okAdd
    rw [Bool.and_eq_true, List.all_eq_true, List.all_eq_true]
    have hne : ∀ t ∈ ch, s ≠ t := fun t ht e => (hc t ht).2 (by rw [← e]; exact List.mem_cons_self ..)
    refine ⟨fun t ht => h.pair s t hs (hc t ht).1 (hne t ht), fun t ht => ?_⟩
    rw [List.all_eq_true]
    intro u hu
    rw [Bool.or_eq_true, beq_iff_eq]
    by_cases e : t = u
    ·exact .inl e
    ·exact .inr (h.three s t u hs (hc t ht).1 (hc u hu).1 (hne t ht) (hne u hu) e)
   have h2 := best_le h w r (s :: ch) hn.2 fun t ht => by
    rcases List.mem_cons.1 ht with rfl | ht
    ·exact ⟨hs, hn.1⟩
    ·exact ⟨(hc t ht).1, fun hm => (hc t ht).2 (List.mem_cons_of_mem _ hm)⟩
   rw [hok, if_pos rfl, hs]
   exact Nat.le_trans (by omega) (Nat.le_max_right _ _)
theorem fsum_filter (f w : Nat → Nat) (g : Nat → Bool) : ∀ l : List Nat, fsum f w (l.filter g) = fsum f (fun s => if g s then w s else 0) l
 | [] => rfl
 | s :: r => by
  rw [List.filter_cons]
  cases hg : g s
  ·simp only [Bool.false_eq_true, if_false]
   rw [fsum_filter f w g r, fsum, hg]; simp
  ·simp only [if_true]
   rw [fsum, fsum, fsum_filter f w g r, hg]; simp
theorem fsum_add (f w v : Nat → Nat) : ∀ l : List Nat, fsum f (fun s => w s + v s) l = fsum f w l + fsum f v l
 | [] => rfl
 | s :: r => by rw [fsum, fsum, fsum, fsum_add f w v r, Nat.mul_add]; omega
theorem fsum_mono {f w v : Nat → Nat} : ∀ l : List Nat, (∀ s ∈ l, f s ≠ 0 → w s ≤ v s) → fsum f w l ≤ fsum f v l
 | [], _ => Nat.le_refl _
 | s :: r, h => by
  have h1 := fsum_mono r fun t ht => h t (List.mem_cons_of_mem _ ht)
  rw [fsum, fsum]
  by_cases h0 : f s = 0
  ·rw [h0]; omega
  ·have := Nat.mul_le_mul_left (f s) (h s (List.mem_cons_self ..) h0)
   omega
theorem fsum_six (f : Nat → Nat) : ∀ l : List Nat, fsum f (fun _ => 6) l = 6 * fsum f (fun _ => 1) l
 | [] => rfl
 | s :: r => by rw [fsum, fsum, fsum_six f r]; omega
def subS (T s : Nat) : Bool := !(s == 0) && (s &&& T == s)
def w4 (s : Nat) : Nat := if pcN s = 1 then 1 else if pcN s = 2 then 1 else if pcN s = 3 then 2 else if pcN s = 4 then 4 else 0
def w5 (s : Nat) : Nat := if pcN s = 4 then 1 else 0
def four : List Nat := (List.range 64).filter fun s => pcN s == 4
def five : List Nat := (List.range 64).filter fun s => pcN s == 5
theorem best4 : (four.all fun T => decide (bestW w4 ((List.range 64).filter (subS T)) [] ≤ 4)) = true := by decide +kernel
theorem best5 : (five.all fun T => decide (bestW w5 ((List.range 64).filter fun s => subS T s && pcN s == 4) [] ≤ 2)) = true := by decide +kernel
def W4 (s : Nat) : List Nat → Nat
 | [] => 0
 | T :: r => (if subS T s then w4 s else 0) + W4 s r
def W5 (s : Nat) : List Nat → Nat
 | [] => 0
 | T :: r => (if subS T s && pcN s == 4 then w5 s else 0) + W5 s r
theorem cover6 : ((List.range 64).all fun s => decide (pcN s = 0) || (decide (4 < pcN s) || decide (6 ≤ W4 s four + W5 s five))) = true := by decide +kernel
theorem len4 : four.length = 15 := by decide +kernel
theorem len5 : five.length = 6 := by decide +kernel
theorem sum4 {f : Nat → Nat} (h : Apart6 f) : ∀ l : List Nat, (∀ T ∈ l, T ∈ four) → fsum f (fun s => W4 s l) (List.range 64) ≤ 4 * l.length
 | [], _ => by
  have : ∀ l : List Nat, fsum f (fun s => W4 s []) l = 0 := by
   intro l
   induction l with
   | nil => rfl
   | cons s r ih => rw [fsum, ih]; rfl
  rw [this]; exact Nat.zero_le _
 | T :: r, hl => by
  have ih := sum4 h r fun T hT => hl T (List.mem_cons_of_mem _ hT)
  have e : fsum f (fun s => W4 s (T :: r)) (List.range 64) = fsum f (fun s => if subS T s then w4 s else 0) (List.range 64) + fsum f (fun s => W4 s r) (List.range 64) := fsum_add f (fun s => if subS T s then w4 s else 0) (fun s => W4 s r) _
  have h1 := best_le h w4 ((List.range 64).filter (subS T)) [] (List.Pairwise.filter _ List.nodup_range) (fun t ht => by cases ht)
  have h2 := of_decide_eq_true (List.all_eq_true.1 best4 T (hl T (List.mem_cons_self ..)))
  rw [fsum_filter] at h1
  rw [e, List.length_cons]
  omega
theorem sum5 {f : Nat → Nat} (h : Apart6 f) : ∀ l : List Nat, (∀ T ∈ l, T ∈ five) → fsum f (fun s => W5 s l) (List.range 64) ≤ 2 * l.length
 | [], _ => by
  have : ∀ l : List Nat, fsum f (fun s => W5 s []) l = 0 := by
   intro l
   induction l with
   | nil => rfl
   | cons s r ih => rw [fsum, ih]; rfl
  rw [this]; exact Nat.zero_le _
 | T :: r, hl => by
  have ih := sum5 h r fun T hT => hl T (List.mem_cons_of_mem _ hT)
  have e : fsum f (fun s => W5 s (T :: r)) (List.range 64) = fsum f (fun s => if subS T s && pcN s == 4 then w5 s else 0) (List.range 64) + fsum f (fun s => W5 s r) (List.range 64) := fsum_add f (fun s => if subS T s && pcN s == 4 then w5 s else 0) (fun s => W5 s r) _
  have h1 := best_le h w5 ((List.range 64).filter fun s => subS T s && pcN s == 4) [] (List.Pairwise.filter _ List.nodup_range) (fun t ht => by cases ht)
  have h2 := of_decide_eq_true (List.all_eq_true.1 best5 T (hl T (List.mem_cons_self ..)))
  rw [fsum_filter] at h1
  rw [e, List.length_cons]
  omega
theorem pc_or : ((List.range 64).all fun s => (List.range 64).all fun X => decide (pcN (s ||| X) ≤ 6)) = true := by decide +kernel
theorem fsum_count (f : Nat → Nat) (h1 : ∀ s, f s = 0 ∨ f s = 1) : ∀ l : List Nat, fsum f (fun _ => 1) l = (l.filter fun s => f s == 1).length
 | [] => rfl
 | s :: r => by
  rw [fsum, fsum_count f h1 r, List.filter_cons]
  rcases h1 s with h | h
  ·rw [h]; simp
  ·rw [h]; simp; omega
theorem few6 {f : Nat → Nat} (h : Apart6 f) (h0 : f 0 = 0) : fsum f (fun _ => 1) (List.range 64) ≤ 12 := by
 by_cases hbig : ∃ s, s < 64 ∧ f s = 1 ∧ 4 < pcN s
 ·obtain ⟨s, hs, hf, hp⟩ := hbig
  rw [fsum_count f h.one]
  obtain ⟨B, hB⟩ : ∃ B, B = (List.range 64).filter fun s => f s == 1 := ⟨_, rfl⟩
  rw [← hB]
  have hnd : B.Nodup := by rw [hB]; exact List.Pairwise.filter _ List.nodup_range
  have hm : ∀ t ∈ B, t < 64 ∧ f t = 1 := fun t ht => by
   rw [hB, List.mem_filter, List.mem_range, beq_iff_eq] at ht; exact ht
  -- two others cannot be
  have htwo : ∀ t u, t ∈ B → u ∈ B → t ≠ s → u ≠ s → t ≠ u → False := fun t u ht hu h1 h2 h3 => by
   have hk := h.three s t u hf (hm t ht).2 (hm u hu).2 (Ne.symm h1) (Ne.symm h2) h3
   unfold okT at hk
   rw [Bool.and_eq_true, decide_eq_true_eq] at hk
   have h64 : t ||| u < 64 := Nat.or_lt_two_pow (n := 6) (hm t ht).1 (hm u hu).1
   have := of_decide_eq_true (List.all_eq_true.1 (List.all_eq_true.1 pc_or s (List.mem_range.2 hs)) (t ||| u) (List.mem_range.2 h64))
   rw [← Nat.or_assoc] at this
   omega
  match B, hnd, htwo with
  | [], _, _ => exact Nat.zero_le _
  | [_], _, _ => simp
  | [_, _], _, _ => simp
  | a :: b :: d :: l, hnd, htwo =>
   exfalso
   simp only [List.nodup_cons, List.mem_cons, not_or] at hnd
   obtain ⟨⟨ab, ad, _⟩, ⟨bd, _⟩, _⟩ := hnd
   by_cases e1 : a = s
   ·exact htwo b d (by simp) (by simp) (fun e => ab (by rw [e1, e])) (fun e => ad (by rw [e1, e])) bd
   ·by_cases e2 : b = s
    ·exact htwo a d (by simp) (by simp) e1 (fun e => bd (by rw [e2, e])) ad
    ·exact htwo a b (by simp) (by simp) e1 e2 ab
 ·have h4 := sum4 h four fun T hT => hT
  have h5 := sum5 h five fun T hT => hT
  rw [len4] at h4
  rw [len5] at h5
  have hsum := fsum_add f (fun s => W4 s four) (fun s => W5 s five) (List.range 64)
  have hm := fsum_mono (f := f) (w := fun _ => 6) (v := fun s => W4 s four + W5 s five) (List.range 64) fun s hs hf => by
   rw [List.mem_range] at hs
   have hf1 : f s = 1 := (h.one s).resolve_left hf
   have := List.all_eq_true.1 cover6 s (List.mem_range.2 hs)
   rw [Bool.or_eq_true, Bool.or_eq_true, decide_eq_true_eq, decide_eq_true_eq, decide_eq_true_eq] at this
   rcases this with h' | h' | h'
   ·have hz : s = 0 := by
     refine Classical.byContradiction fun hne => ?_
     have key : ∀ s, s < 64 → pcN s = 0 → s = 0 := by decide +kernel
     exact hne (key s hs h')
    rw [hz, h0] at hf1; cases hf1
   ·exact (hbig ⟨s, hs, hf1, h'⟩).elim
   ·exact h'
  rw [fsum_six] at hm
  omega
theorem near_bool : ((List.range 64).all fun s => (List.range 64).all fun X => !(decide (pcN (s ||| X) ≤ pcN s + 1)) || (List.range 6).any fun e => (List.range 6).all fun i => !((s ||| X).testBit i) || (s.testBit i || i == e)) = true := by decide +kernel
theorem near_one {s X : Nat} (hs : s < 64) (hX : X < 64) (h : pcN (s ||| X) ≤ pcN s + 1) : ∃ e, e < 6 ∧ ∀ i, i < 6 → X.testBit i = true → s.testBit i = true ∨ i = e := by
 have := List.all_eq_true.1 (List.all_eq_true.1 near_bool s (List.mem_range.2 hs)) X (List.mem_range.2 hX)
 rw [decide_eq_true h, Bool.not_true, Bool.false_or, List.any_eq_true] at this
 obtain ⟨e, he, h2⟩ := this
 refine ⟨e, List.mem_range.1 he, fun i hi hb => ?_⟩
 have := List.all_eq_true.1 h2 i (List.mem_range.2 hi)
 rw [Nat.testBit_or, hb, Bool.or_true, Bool.not_true, Bool.false_or, Bool.or_eq_true, beq_iff_eq] at this
 exact this
theorem bits_eq {s t : Nat} (hs : s < 64) (ht : t < 64) (h : ∀ i, i < 6 → s.testBit i = t.testBit i) : s = t := by
 apply Nat.eq_of_testBit_eq
 intro i
 by_cases hi : i < 6
 ·exact h i hi
 ·have e : ∀ u, u < 64 → u.testBit i = false := fun u hu => Nat.testBit_lt_two_pow (Nat.lt_of_lt_of_le hu (show 2 ^ 6 ≤ 2 ^ i from Nat.pow_le_pow_right (by omega) (by omega)))
  rw [e s hs, e t ht]
theorem of_few6 {c : List (List Int)} (hc : ChangeM c) : (ofL c).length ≤ 12 := by
 by_cases h5 : c.length ≤ 5
 ·have := of_few hc h5; omega
 have h6 : c.length = 6 := by have := hc.six; omega
 obtain ⟨f, hf⟩ : ∃ f : Nat → Nat, f = fun s => if s < 64 ∧ (semB c s).isSome = true then 1 else 0 := ⟨_, rfl⟩
 have hf1 : ∀ s, f s = 1 → s < 64 ∧ 0 < (inS (fun i => s.testBit i) c.length).length ∧ ∃ x, semF c (fun i => s.testBit i) = some x := fun s hs => by
  rw [hf] at hs
  simp only at hs
  split at hs
  ·rename_i h
   obtain ⟨x, hx⟩ := Option.isSome_iff_exists.1 h.2
   obtain ⟨h0, h1⟩ := semB_some hx
   exact ⟨h.1, bits_some c.length hc.six s (by rw [h6]; exact h.1) h0, x, h1⟩
  ·cases hs
 have hne : ∀ s t, s < 64 → t < 64 → s ≠ t → ¬ ∀ i, i < c.length → s.testBit i = t.testBit i := fun s t hs ht hst h => hst (bits_eq hs ht fun i hi => h i (by omega))
 have hA : Apart6 f := by
  have hin : ∀ s t, f s = 1 → f t = 1 → s ≠ t → ¬ (s &&& t = s) := fun s t hs ht hst he => by
   obtain ⟨s1, s2, x, s3⟩ := hf1 s hs
   obtain ⟨t1, t2, y, t3⟩ := hf1 t ht
   refine hne t s t1 s1 (Ne.symm hst) (sem_within hc t2 s2 t3 s3 fun i hi hb => ?_)
   have := congrArg (fun n : Nat => n.testBit i) he
   simp only [Nat.testBit_and] at this
   rw [hb, Bool.true_and] at this; exact this
  have hth : ∀ s t u, f s = 1 → f t = 1 → f u = 1 → s ≠ t → s ≠ u → t ≠ u → pcN s + 1 < pcN (s ||| (t ||| u)) := fun s t u hs ht hu h1 h2 h3 => by
   obtain ⟨s1, s2, x, s3⟩ := hf1 s hs
   obtain ⟨t1, t2, y, t3⟩ := hf1 t ht
   obtain ⟨u1, u2, z, u3⟩ := hf1 u hu
   refine Classical.byContradiction fun hcon => ?_
   obtain ⟨e, he, hb⟩ := near_one s1 (X := t ||| u) (Nat.or_lt_two_pow (n := 6) t1 u1) (by omega)
   exact sem_third hc (e := e) (by omega) s2 t2 u2 s3 t3 u3 (fun i hi hti => hb i (by omega) (by rw [Nat.testBit_or, hti]; rfl)) (fun i hi hui => hb i (by omega) (by rw [Nat.testBit_or, hui, Bool.or_true]))
    (hne s t s1 t1 h1) (hne s u s1 u1 h2) (hne t u t1 u1 h3)
  refine ⟨fun s => ?_, fun s t hs ht hst => ?_, fun s t u hs ht hu h1 h2 h3 => ?_⟩
  ·rw [hf]; simp only; split
   ·exact .inr rfl
   ·exact .inl rfl
  ·unfold okP
   rw [Bool.and_eq_true, Bool.not_eq_true', Bool.not_eq_true', beq_eq_false_iff_ne, beq_eq_false_iff_ne]
   exact ⟨hin s t hs ht hst, fun e => hin t s ht hs (Ne.symm hst) (by rw [Nat.and_comm]; exact e)⟩
  ·unfold okT
   rw [Bool.and_eq_true, Bool.and_eq_true, decide_eq_true_eq, decide_eq_true_eq, decide_eq_true_eq]
   refine ⟨?_, ?_, ?_⟩
   ·rw [Nat.or_assoc]; exact hth s t u hs ht hu h1 h2 h3
   ·have := hth t s u ht hs hu (Ne.symm h1) h3 h2
    rwa [← Nat.or_assoc, Nat.or_comm t s] at this
   ·have := hth u s t hu hs ht (Ne.symm h2) (Ne.symm h3) h1
    rwa [Nat.or_comm u (s ||| t)] at this
 have h0 : f 0 = 0 := by
  rcases hA.one 0 with h | h
  ·exact h
  ·obtain ⟨_, h2, _⟩ := hf1 0 h
   have e : inS (fun i => Nat.testBit 0 i) c.length = [] := by
    unfold inS
    rw [List.filter_eq_nil_iff]
    intro i _; simp
   rw [e] at h2; simp at h2
 have h12 := few6 hA h0
 rw [fsum_count f hA.one] at h12
 have hlen : (ofL c).length = ((List.range 64).filter fun s => f s == 1).length := by
  unfold ofL
  rw [h6, List.length_filterMap_eq_countP, List.countP_eq_length_filter]
  congr 1
  refine List.filter_congr fun s hs => ?_
  have hs : s < 64 := List.mem_range.1 hs
  rw [hf]
  cases hb : (semB c s).isSome
  ·simp [hb]
  ·simp [hb, hs]
 rw [hlen]; exact h12
set_option maxRecDepth 100000
set_option maxHeartbeats 8000000
theorem outB_n : outB 1048576 = nBad := rfl
theorem outB_w : outB 1099511627776 = wBad := rfl
theorem con_rAllows11 (c : List (List Int)) (s v : List Int) (hF : Fits c) (_hs : s.length ≤ 1000000) (_hv : v.length ≤ 1000000) :
  Con Try.prog 23 [vm 0 c, vs 0 s, vs 0 v] [] fun r _ => r = .tup [.sc (.bool (allowsR c s v).1), vi (allowsR c s v).2] := by
 refine Con.intro Try.func23 rfl Try.ntmps23 Try.results23 (by kernel_rfl) (by simp) 0 (by simp) ?_
 simp only [go_sem]
 refine CallU.free (con_rOf11 c hF) (by simp only [go_sem]) (by simp only [go_sem]) ?_
 rintro r bx rfl
 by_cases h : schF c = 0
 case neg =>
  have hb : (schF c != 0) = true := bne_iff_ne.2 h
  have e : allowsR c s v = (false, schF c) := by unfold allowsR; rw [if_pos h]
  have eR : ofR0 c = .tup [.nil, vi (schF c)] := by unfold ofR0; rw [if_neg h]
  simp only [go_sem, eR, hb, e]
 have hc := sch_change h
 have h6 := hc.six
 have eR : ofR0 c = .tup [vm 0 (ofS c), vi 0] := by unfold ofR0; rw [if_pos h]
 by_cases h1 : s.length = c.length
 case neg =>
  have e : allowsR c s v = (false, 3) := by unfold allowsR; rw [if_neg (fun h' => h' h), if_pos (.inl h1)]
  simp only [go_sem, eR, h1, e]
 by_cases h2 : v.length = c.length
 case neg =>
  have e : allowsR c s v = (false, 3) := by unfold allowsR; rw [if_neg (fun h' => h' h), if_pos (.inr h2)]
  simp only [go_sem, eR, h1, h2, e]
 have hn1 := con_r11numbers s 1048576 (by omega)
 have hn2 := con_r11numbers v 1048576 (by omega)
 rw [outB_n] at hn1 hn2
 simp only [go_sem, eR, h1, h2]
 refine CallU.free hn1 (by simp only [go_sem]) (by simp only [go_sem]) ?_
 rintro r bx rfl
 cases h3 : s.any nBad
 case true =>
  have e : allowsR c s v = (false, 2) := by unfold allowsR; rw [if_neg (fun h' => h' h), if_neg (by omega), if_pos (.inl h3)]
  simp only [go_sem, e]
 simp only [go_sem]
 refine CallU.free hn2 (by simp only [go_sem]) (by simp only [go_sem]) ?_
 rintro r bx rfl
 cases h4 : v.any nBad
 case true =>
  have e : allowsR c s v = (false, 2) := by unfold allowsR; rw [if_neg (fun h' => h' h), if_neg (by omega), if_pos (.inr h4)]
  simp only [go_sem, e]
 have e : allowsR c s v = (!(ofS c).any fun y => dotF y s != dotF y v, 0) := by unfold allowsR; rw [if_neg (fun h' => h' h), if_neg (by omega), if_neg (by rw [h3, h4]; simp)]
 have hl := of_few6 hc
 have hl2 := ofS_len (c := c)
 have hrow := ofS_row hc
 rw [e]
 generalize ofS c = S at hl2 hrow
 simp only [go_sem]
 refine LoopK.intro (fun k : Nat => ⟨58, [(1, vs 0 s), (2, vs 0 v), (8, vm 0 S), (10, vi k)], []⟩)
  (fun k => S.length - k) (fun k => k ≤ S.length ∧ ∀ j, j < k → (dotF S[j]! s != dotF S[j]! v) = false) 0 ⟨by omega, fun j hj => by omega⟩ ?_ ?_
 ·simp only [go_sem]
 rintro k ⟨hk, hb⟩
 by_cases hlt : k < S.length
 ·have hg := getm hlt
  have hw : IntKind.i64.wrap (k + 1) = k + 1 := wrap_in (by omega) (by omega)
  have hrl := hrow S[k]! (mem_bang hlt)
  simp only [go_sem, hlt]
  refine DrawK.walk 13 mixed (by kernel_rfl) ?_
  simp only [go_sem, hlt, hg]
  refine CallY.mk (con_r11sum S[k]! s (by omega) (by omega)) (by simp only [go_sem]) (by simp only [go_sem]) (.inl (by simp only [go_sem])) ?_
  simp only [go_sem, hlt, hg]
  refine CallY.mk (con_r11sum S[k]! v (by omega) (by omega)) (by simp only [go_sem]) (by simp only [go_sem]) (.inl (by simp only [go_sem])) ?_
  cases hx : dotF S[k]! s != dotF S[k]! v
  ·simp only [go_sem, hx, hw]
   refine roundK.intro (k + 1) ⟨by omega, fun j hj => ?_⟩ (by omega) ?_
   ·by_cases hjk : j = k
    ·subst hjk; exact hx
    ·exact hb j (by omega)
   ·simp only [go_sem]
  ·have ea : (S.any fun y => dotF y s != dotF y v) = true := any_stop hlt hx
   simp only [go_sem, hx, ea]
 ·have ea : (S.any fun y => dotF y s != dotF y v) = false := mxAnyNone fun j hj => hb j (by omega)
  simp only [go_sem, hlt, ea]
theorem con_rBound11 (c : List (List Int)) (start : List Int) (place : Int) (hF : Fits c) (_hs : start.length ≤ 1000000) :
  Con Try.prog 21 [vm 0 c, vs 0 start, vi place] [] fun r _ => r = .tup [vi (boundR c start place).1, .sc (.bool (boundR c start place).2.1), vi (boundR c start place).2.2] := by
 refine Con.intro Try.func21 rfl Try.ntmps21 Try.results21 (by kernel_rfl) (by simp) 0 (by simp) ?_
 simp only [go_sem]
 refine CallU.free (con_rOf11 c hF) (by simp only [go_sem]) (by simp only [go_sem]) ?_
 rintro r bx rfl
 by_cases h : schF c = 0
 case neg =>
  have hb : (schF c != 0) = true := bne_iff_ne.2 h
  have e : boundR c start place = (0, false, schF c) := by unfold boundR; rw [if_pos h]
  have eR : ofR0 c = .tup [.nil, vi (schF c)] := by unfold ofR0; rw [if_neg h]
  simp only [go_sem, eR, hb, e]
 have hc := sch_change h
 have h6 := hc.six
 have eR : ofR0 c = .tup [vm 0 (ofS c), vi 0] := by unfold ofR0; rw [if_pos h]
 by_cases h1 : start.length = c.length
 case neg =>
  have e : boundR c start place = (0, false, 3) := by unfold boundR; rw [if_neg (fun h' => h' h), if_pos h1]
  simp only [go_sem, eR, h1, e]
 have hn1 := con_r11numbers start 1048576 (by omega)
 rw [outB_n] at hn1
 simp only [go_sem, eR, h1]
 refine CallU.free hn1 (by simp only [go_sem]) (by simp only [go_sem]) ?_
 rintro r bx rfl
 cases h3 : start.any nBad
 case true =>
  have e : boundR c start place = (0, false, 2) := by unfold boundR; rw [if_neg (fun h' => h' h), if_neg (by omega), if_pos (.inl h3)]
  simp only [go_sem, e]
 by_cases h4 : place < 0
 ·have e : boundR c start place = (0, false, 2) := by unfold boundR; rw [if_neg (fun h' => h' h), if_neg (by omega), if_pos (.inr (.inl h4))]
  simp only [go_sem, h4, e]
 by_cases h5 : (c.length : Int) ≤ place
 ·have e : boundR c start place = (0, false, 2) := by unfold boundR; rw [if_neg (fun h' => h' h), if_neg (by omega), if_pos (.inr (.inr h5))]
  simp only [go_sem, h4, h5, e]
 obtain ⟨p, hp⟩ : ∃ p : Nat, place = p := ⟨place.toNat, by omega⟩
 have e : boundR c start place = ((bndG (ofS c) start p (ofS c).length).1, (bndG (ofS c) start p (ofS c).length).2, 0) := by
  unfold boundR; rw [if_neg (fun h' => h' h), if_neg (by omega), if_neg (by rw [h3]; simp; omega), hp]; rfl
 rw [e]
 subst hp
 have hl := of_few6 hc
 have hl2 := ofS_len (c := c)
 have hrow := ofS_row hc
 generalize ofS c = S at hl2 hrow
 simp only [go_sem, h4, h5]
 refine LoopK.intro (fun k : Nat => ⟨79, [(1, vs 0 start), (2, vi p), (9, vm 0 S), (11, vi (bndG S start p k).1), (12, vb (bndG S start p k).2), (13, vi k)], []⟩)
  (fun k => S.length - k) (fun k => k ≤ S.length) 0 (by omega) ?_ ?_
 ·simp only [go_sem, bndG]
 intro k hk
 by_cases hlt : k < S.length
 ·have hg := getm hlt
  have hw : IntKind.i64.wrap (k + 1) = k + 1 := wrap_in (by omega) (by omega)
  have hrl := hrow S[k]! (mem_bang hlt)
  have hpl : p < S[k]!.length := by omega
  have hgp := getv hpl
  have hn : bndG S start p (k + 1) = if S[k]![p]! = 0 then bndG S start p k else if (bndG S start p k).2 = false ∨ w64 ((dotF S[k]! start).tdiv S[k]![p]!) < (bndG S start p k).1 then (w64 ((dotF S[k]! start).tdiv S[k]![p]!), true) else bndG S start p k := rfl
  by_cases h0 : S[k]![p]! = 0
  ·have h0b : (S[k]![p]! == 0) = true := by rw [h0]; rfl
   rw [if_pos h0] at hn
   simp only [go_sem, hlt, hg, hpl, hgp, h0b, hw]
   refine roundK.intro (k + 1) (by omega) (by omega) ?_
   simp only [go_sem, hn]
  ·have h0b : (S[k]![p]! == 0) = false := beq_eq_false_iff_ne.2 h0
   rw [if_neg h0] at hn
   simp only [go_sem, hlt, hg, hpl, hgp, h0b]
   refine DrawK.walk 15 mixed (by kernel_rfl) ?_
   simp only [go_sem, hlt, hg]
   refine CallY.mk (con_r11sum S[k]! start (by omega) (by omega)) (by simp only [go_sem]) (by simp only [go_sem]) (.inl (by simp only [go_sem])) ?_
   simp only [go_sem, hlt, hg, hpl, hgp]
   refine ⟨h0, ?_⟩
   cases hf : (bndG S start p k).2
   ·have hn : bndG S start p (k + 1) = (w64 ((dotF S[k]! start).tdiv S[k]![p]!), true) := by rw [hn, if_pos (.inl hf)]
    simp only [go_sem, hw]
    refine roundK.intro (k + 1) (by omega) (by omega) ?_
    simp only [go_sem, hn, w64]
   ·by_cases hlt2 : w64 ((dotF S[k]! start).tdiv S[k]![p]!) < (bndG S start p k).1
    ·have hn : bndG S start p (k + 1) = (w64 ((dotF S[k]! start).tdiv S[k]![p]!), true) := by rw [hn, if_pos (.inr hlt2)]
     simp only [w64] at hlt2
     simp only [go_sem, hlt2, hw]
     refine roundK.intro (k + 1) (by omega) (by omega) ?_
     simp only [go_sem, hn, w64]
    ·have hn : bndG S start p (k + 1) = bndG S start p k := by rw [hn, if_neg (fun h' => h'.elim (fun h'' => by rw [hf] at h''; cases h'') hlt2)]
     simp only [w64] at hlt2
     simp only [go_sem, hlt2, hw]
     refine roundK.intro (k + 1) (by omega) (by omega) ?_
     simp only [go_sem, hn, hf]
 ·have hkl : k = S.length := by omega
  subst hkl
  simp only [go_sem, hlt]
theorem con_rValue11 (y v : List Int) (hy : y.length ≤ 1000000) (_hv : v.length ≤ 1000000) : Con Try.prog 25 [vs 0 y, vs 0 v] [] fun r _ => r = .tup [vi (valueR y v).1, vi (valueR y v).2] := by
 refine Con.intro Try.func25 rfl Try.ntmps25 Try.results25 (by kernel_rfl) (by simp) 0 (by simp) ?_
 by_cases h1 : y.length = v.length
 case neg =>
  have hb : (y.length != v.length) = true := bne_iff_ne.2 h1
  have e : valueR y v = (0, 3) := by unfold valueR; rw [if_pos (.inl h1)]
  simp only [go_sem, h1, e]
 by_cases h2 : 6 < y.length
 ·have e : valueR y v = (0, 3) := by unfold valueR; rw [if_pos (.inr h2)]
  have h2' : 6 < v.length := by omega
  simp only [go_sem, h1, h2', e]
 have h2' : ¬ 6 < v.length := by omega
 have hn1 := con_r11numbers y 1099511627776 (by omega)
 have hn2 := con_r11numbers v 1048576 (by omega)
 rw [outB_w] at hn1
 rw [outB_n] at hn2
 simp only [go_sem, h1, h2']
 refine CallU.free hn1 (by simp only [go_sem]) (by simp only [go_sem]) ?_
 rintro r bx rfl
 cases h3 : y.any wBad
 case true =>
  have e : valueR y v = (0, 2) := by unfold valueR; rw [if_neg (by omega), if_pos (.inl h3)]
  simp only [go_sem, e]
 simp only [go_sem]
 refine CallU.free hn2 (by simp only [go_sem]) (by simp only [go_sem]) ?_
 rintro r bx rfl
 cases h4 : v.any nBad
 case true =>
  have e : valueR y v = (0, 2) := by unfold valueR; rw [if_neg (by omega), if_pos (.inr h4)]
  simp only [go_sem, e]
 have e : valueR y v = (dotF y v, 0) := by unfold valueR; rw [if_neg (by omega), if_neg (by rw [h3, h4]; simp)]
 simp only [go_sem]
 refine CallU.free (con_r11sum y v (by omega) hy) (by simp only [go_sem]) (by simp only [go_sem]) ?_
 rintro r bx rfl
 simp only [go_sem, e]
def narF (m : List (List Int)) : Bool := !(m.any fun r => decide (20 < r.length)) && decide (m.length ≤ 20)
theorem narF_fits {m : List (List Int)} (h : narF m = true) : Fits m := by
 unfold narF at h
 rw [Bool.and_eq_true, Bool.not_eq_true', decide_eq_true_eq] at h
 refine ⟨by omega, fun row hr => ?_⟩
 have := of_decide_eq_false (anyS_inv h.1 row hr)
 omega
theorem con_mxNarrow (m : List (List Int)) (hml : m.length ≤ 9223372036854775807) : Con Try.prog 10 [vm 0 m] [] fun r _ => r = vb (narF m) := by
 refine Con.intro Try.func10 rfl Try.ntmps10 Try.results10 (by kernel_rfl) (by simp) 0 (by simp) ?_
 simp only [go_sem]
 refine LoopK.intro (fun i : Nat => ⟨19, [(0, vm 0 m), (4, vm 0 m), (5, vi m.length), (6, vi i)], []⟩)
  (fun i => m.length - i) (fun i => i ≤ m.length ∧ ∀ j, j < i → decide (20 < m[j]!.length) = false) 0 ⟨by omega, fun j hj => by omega⟩ ?_ ?_
 ·simp only [go_sem]
 rintro i ⟨hi, hb⟩
 by_cases h : i < m.length
 ·have hg := getm h
  have hw : IntKind.i64.wrap (i + 1) = i + 1 := wrap_in (by omega) (by omega)
  by_cases h1 : 20 < m[i]!.length
  ·have e : narF m = false := by unfold narF; rw [any_stop h (by exact decide_eq_true h1)]; rfl
   simp only [go_sem, h, hg, h1, e]
  ·simp only [go_sem, h, hg, h1, hw]
   refine roundK.intro (i + 1) ⟨by omega, fun j hj => ?_⟩ (by omega) ?_
   ·by_cases hji : j = i
    ·subst hji; exact decide_eq_false h1
    ·exact hb j (by omega)
   ·simp only [go_sem]
 ·have e : narF m = decide (m.length ≤ 20) := by unfold narF; rw [mxAnyNone fun j hj => hb j (by omega)]; rfl
  simp only [go_sem, h, e]
def mcS1 (l : List Int) (s : DS) : DS := nextS l s 7
def mcS2 (l : List Int) (s : DS) : DS := nextS l (mcS1 l s) 20
def mcV (l : List Int) (s : DS) : Int := if oneV l (mcS1 l s) 20 then ([16, -16] : List Int)[(nextV l (mcS2 l s) 2).toNat]! else nextV l s 7 - 3
def mcS (l : List Int) (s : DS) : DS := if oneV l (mcS1 l s) 20 then nextS l (mcS2 l s) 2 else mcS2 l s
theorem mcS_dk {l : List Int} {s : DS} (h : Dk l s) : Dk l (mcS l s) := by
 have h1 : Dk l (mcS1 l s) := nextS_dk h
 have h2 : Dk l (mcS2 l s) := nextS_dk h1
 unfold mcS; split
 ·exact nextS_dk h2
 ·exact h2
theorem mcV_low (l : List Int) (s : DS) : -16 ≤ mcV l s ∧ mcV l s ≤ 16 := by
 unfold mcV
 split
 ·have := nextV_lt (l := l) (s := mcS2 l s) (n := 2) (by omega)
  generalize nextV l (mcS2 l s) 2 = x at this
  have : x = 0 ∨ x = 1 := by omega
  rcases this with rfl | rfl <;> decide
 ·have := nextV_lt (l := l) (s := s) (n := 7) (by omega)
  omega
def mrS (l : List Int) (s : DS) : Nat → DS
 | 0 => s
 | n + 1 => mcS l (mrS l s n)
def mrV (l : List Int) (s : DS) : Nat → List Int
 | 0 => []
 | n + 1 => mrV l s n ++ [mcV l (mrS l s n)]
theorem mrS_dk {l : List Int} {s : DS} (h : Dk l s) : ∀ n, Dk l (mrS l s n)
 | 0 => h
 | n + 1 => mcS_dk (mrS_dk h n)
theorem mrV_len (l : List Int) (s : DS) : ∀ n, (mrV l s n).length = n
 | 0 => rfl
 | n + 1 => by rw [mrV, List.length_append, mrV_len l s n]; rfl
theorem mrV_low (l : List Int) (s : DS) : ∀ n, ∀ x ∈ mrV l s n, -16 ≤ x ∧ x ≤ 16
 | 0, x, hx => by cases hx
 | n + 1, x, hx => by
  rw [mrV, List.mem_append] at hx
  rcases hx with hx | hx
  ·exact mrV_low l s n x hx
  ·rw [List.mem_singleton] at hx; subst hx; exact mcV_low _ _
def mtS (l : List Int) (s : DS) (cols : Nat) : Nat → DS
 | 0 => s
 | n + 1 => mrS l (mtS l s cols n) cols
def mtV (l : List Int) (s : DS) (cols : Nat) : Nat → List (List Int)
 | 0 => []
 | n + 1 => mtV l s cols n ++ [mrV l (mtS l s cols n) cols]
theorem mtS_dk {l : List Int} {s : DS} {cols : Nat} (h : Dk l s) : ∀ n, Dk l (mtS l s cols n)
 | 0 => h
 | n + 1 => mrS_dk (mtS_dk h n) cols
theorem mtV_len (l : List Int) (s : DS) (cols : Nat) : ∀ n, (mtV l s cols n).length = n
 | 0 => rfl
 | n + 1 => by rw [mtV, List.length_append, mtV_len l s cols n]; rfl
theorem mtV_row (l : List Int) (s : DS) (cols : Nat) : ∀ n, ∀ r ∈ mtV l s cols n, r.length = cols ∧ ∀ x ∈ r, -16 ≤ x ∧ x ≤ 16
 | 0, r, hr => by cases hr
 | n + 1, r, hr => by
  rw [mtV, List.mem_append] at hr
  rcases hr with hr | hr
  ·exact mtV_row l s cols n r hr
  ·rw [List.mem_singleton] at hr; subst hr; exact ⟨mrV_len _ _ _, mrV_low _ _ _⟩
theorem mtV_change {l : List Int} {s : DS} {cols n : Nat} (h1 : 1 ≤ n) (h2 : n ≤ 6) (h3 : 1 ≤ cols) (h4 : cols ≤ 12) : ChangeM (mtV l s cols n) := by
 have hl := mtV_len l s cols n
 have h0 := (mtV_row l s cols n _ (mem_bang (show 0 < (mtV l s cols n).length by omega))).1
 exact ⟨⟨by omega, by omega, by omega, by omega, by omega, fun r hr => by rw [h0]; exact mtV_row l s cols n r hr⟩, by omega⟩
theorem con_dMatrix (l : List Int) (s : DS) (n cols : Nat) (h : Dk l s) (hn : n ≤ 1000) (hc : cols ≤ 1000) : Con Try.prog 13 [.pb 0 0, vi n, vi cols] [deckA l s]
  fun r b => r = vm 2 (mtV l s cols n) ∧ b = [deckA l (mtS l s cols n)] := by
 refine Con.intro Try.func13 rfl Try.ntmps13 Try.results13 (by kernel_rfl) (by simp) 1 (by simp) ?_
 simp only [go_sem]
 refine LoopK.intro (fun i : Nat => ⟨41, [(0, .pb 0 0), (1, vi n), (2, vi cols), (7, .sl 2560 1 ((mtV l s cols i).map (vs 0))), (8, vi i)], [deckA l (mtS l s cols i)]⟩)
  (fun i => n - i) (fun i => i ≤ n) 0 (by omega) ?_ ?_
 ·simp only [go_sem, mtV, mtS, List.map_nil]
 intro i hi
 have hil := mtV_len l s cols i
 by_cases h1 : i < n
 case neg =>
  have e : i = n := by omega
  subst e
  simp only [go_sem, h1]
 have hw : IntKind.i64.wrap (i + 1) = i + 1 := wrap_in (by omega) (by omega)
 have hd := mtS_dk (cols := cols) h i
 have hnV : mtV l s cols (i + 1) = mtV l s cols i ++ [mrV l (mtS l s cols i) cols] := rfl
 have hnS : mtS l s cols (i + 1) = mrS l (mtS l s cols i) cols := rfl
 generalize mtS l s cols i = S at hd hnV hnS
 simp only [go_sem, h1]
 refine LoopK.intro (fun k : Nat => ⟨41, [(0, .pb 0 0), (1, vi n), (2, vi cols), (7, .sl 2560 1 ((mtV l s cols i).map (vs 0))), (8, vi i), (9, vs 2304 (mrV l S k)), (10, vi k)], [deckA l (mrS l S k)]⟩)
  (fun k => cols - k) (fun k => k ≤ cols) 0 (by omega) ?_ ?_
 ·simp only [go_sem, mrV, mrS, List.map_nil]
 intro k hk
 have hkl := mrV_len l S k
 by_cases h2 : k < cols
 case neg =>
  have e : k = cols := by omega
  subst e
  have hr : roomFor ((mtV l s k i).length + 1) 24 := by simp only [roomFor]; omega
  simp only [go_sem, h2, hr, hw]
  refine roundK.intro (i + 1) (by omega) (by omega) ?_
  simp only [go_sem, hnV, hnS, List.map_append, List.map_cons, List.map_nil]
 have hwk : IntKind.i64.wrap (k + 1) = k + 1 := wrap_in (by omega) (by omega)
 have hdk := mrS_dk hd k
 have hrV : mrV l S (k + 1) = mrV l S k ++ [mcV l (mrS l S k)] := rfl
 have hrS : mrS l S (k + 1) = mcS l (mrS l S k) := rfl
 generalize mrS l S k = U at hdk hrV hrS
 have c1 : Con Try.prog 12 [.pb 0 0, vi 7] [deckA l U] fun r b => r = vi (nextV l U 7) ∧ b = [deckA l (mcS1 l U)] := con_dNext l U 7 hdk
 have hd1 : Dk l (mcS1 l U) := nextS_dk hdk
 have c2 : Con Try.prog 29 [.pb 0 0, vi 20] [deckA l (mcS1 l U)] fun r b => r = vb (oneV l (mcS1 l U) 20) ∧ b = [deckA l (mcS2 l U)] := con_dOne l (mcS1 l U) 20 hd1
 have hd2 : Dk l (mcS2 l U) := nextS_dk hd1
 have c3 := con_dNext l (mcS2 l U) 2 hd2
 have hv7 := nextV_lt (l := l) (s := U) (n := 7) (by omega)
 have hv2 := nextV_lt (l := l) (s := mcS2 l U) (n := 2) (by omega)
 have e1 : mcV l U = if oneV l (mcS1 l U) 20 then ([16, -16] : List Int)[(nextV l (mcS2 l U) 2).toNat]! else nextV l U 7 - 3 := by unfold mcV; exact Eq.refl _
 have e2 : mcS l U = if oneV l (mcS1 l U) 20 then nextS l (mcS2 l U) 2 else mcS2 l U := by unfold mcS; exact Eq.refl _
 generalize nextV l U 7 = v7 at c1 hv7 e1
 generalize nextV l (mcS2 l U) 2 = v2 at c3 hv2 e1
 generalize nextS l (mcS2 l U) 2 = U3 at c3 e2
 generalize mcS2 l U = U2 at c2 c3 e2 hd2
 generalize oneV l (mcS1 l U) 20 = o at c2 e1 e2
 generalize mcS1 l U = U1 at c1 c2 hd1
 generalize mcV l U = V at e1 hrV
 generalize mcS l U = W at e2 hrS
 have hw7 : IntKind.i64.wrap (v7 - 3) = v7 - 3 := wrap_in (by omega) (by omega)
 have hr : roomFor ((mrV l S k).length + 1) 8 := by simp only [roomFor]; omega
 simp only [go_sem, h2]
 refine CallU.boxes (i := 0) (is := []) (bx0 := [deckA l U]) c1 (by simp only [go_sem]) (by simp only [go_sem]) (by simp only [go_sem]) (by simp only [go_sem]) (by simp only [go_sem]) ?_
 rintro r b ⟨rfl, rfl⟩
 simp only [go_sem, hw7]
 refine CallU.boxes (i := 0) (is := []) (bx0 := [deckA l U1]) c2 (by simp only [go_sem]) (by simp only [go_sem]) (by simp only [go_sem]) (by simp only [go_sem]) (by simp only [go_sem]) ?_
 rintro r b ⟨rfl, rfl⟩
 cases o
 ·have e1 : V = v7 - 3 := e1.trans (if_neg (by simp))
  have e2 : W = U2 := e2.trans (if_neg (by simp))
  simp only [go_sem, hr, hwk]
  refine roundK.intro (k + 1) (by omega) (by omega) ?_
  simp only [go_sem, hrV, hrS, e1, e2, List.map_append, List.map_cons, List.map_nil]
 ·have e1 : V = ([16, -16] : List Int)[v2.toNat]! := e1.trans (if_pos rfl)
  have e2 : W = U3 := e2.trans (if_pos rfl)
  have hlt : v2.toNat < ([16, -16] : List Int).length := by simp; omega
  have hg := getv hlt
  simp only [List.map_cons, List.map_nil, vi] at hg
  rw [← e1] at hg
  simp only [go_sem]
  refine CallU.boxes (i := 0) (is := []) (bx0 := [deckA l U2]) c3 (by simp only [go_sem]) (by simp only [go_sem]) (by simp only [go_sem]) (by simp only [go_sem]) (by simp only [go_sem]) ?_
  rintro r b ⟨rfl, rfl⟩
  simp only [go_sem, hv2, hg, hr, hwk]
  refine roundK.intro (k + 1) (by omega) (by omega) ?_
  simp only [go_sem, hrV, hrS, e2, List.map_append, List.map_cons, List.map_nil]
def seedD : DS := (0, 11400714819323198485)
theorem con_dNewS (l : List Int) : Con Try.prog 11 [vs 0 l] [] fun r b => r = .pb 0 0 ∧ b = [deckA l seedD] := con_dNew l
theorem mx_deck {l : List Int} (h : (l.length : Int) ≤ 400) : Dk l seedD := ⟨Nat.zero_le _, by omega⟩
theorem mx_next {l : List Int} {s : DS} {k : Int} (hk : 1 ≤ k ∧ k ≤ 1000) : ∃ n : Nat, 1 ≤ n ∧ (n : Int) ≤ k ∧ IntKind.i64.wrap (1 + nextV l s k) = n := by
 have := nextV_lt (l := l) (s := s) (n := k) hk.1
 exact ⟨(1 + nextV l s k).toNat, by omega, by omega, by rw [wrap_in (by omega) (by omega)]; omega⟩
end Go.AM
namespace Go.AM
open Go Go.Proofs Go.RowKit
open Go.La (sum sum_congr)
theorem tuM_ext {l l' : List (List Int)} (h : l.length = l'.length) (he : ∀ q, q < l.length → l[q]! = l'[q]!) : l = l' :=
 List.ext_getElem h fun q h1 h2 => by have := he q h1; rwa [getElem!_pos l q h1, getElem!_pos l' q h2] at this
end Go.AM
namespace Go.AM
open Go Go.Proofs Go.RowKit
def rowsT (t : Nat) (M : List (List Int)) : List AV := M.mapIdx fun i r => .sl (subT t i) 1 (r.map vi)
def vtT (t : Nat) (M : List (List Int)) : AV := .so t (rowsT t M)
attribute [go_sem] vtT
theorem rowsT_at {t i : Nat} {M : List (List Int)} : (rowsT t M)[i]? = (M[i]?).map fun r => .sl (subT t i) 1 (r.map vi) := by simp [rowsT, List.getElem?_mapIdx]
@[go_sem] theorem rowsT_nil {t : Nat} : rowsT t [] = [] := rfl
theorem rowsT_frz {t : Nat} {M : List (List Int)} {f : AV → AV} (h : ∀ i r, f (.sl (subT t i) 1 (List.map vi r)) = .sl 0 1 (List.map vi r)) : (rowsT t M).map f = M.map (vs 0) := by
 apply List.ext_getElem?
 intro j
 rw [List.getElem?_map, rowsT_at, List.getElem?_map]
 cases M[j]? with
 | none => rfl
 | some r => simp [h, vs]
theorem rowsT_freeze {t : Nat} {p : Nat → Bool} {M : List (List Int)} (h : p (root t) = true) : (rowsT t M).map (freezeRow p) = M.map (vs 0) := rowsT_frz fun i r => by simp only [freezeRow, sub_two, root_sub, h, and_self, if_true]
@[go_sem] theorem rowsT_freezeT {t : Nat} {M : List (List Int)} : (rowsT t M).map (freezeRow fun _ => true) = M.map (vs 0) := rowsT_freeze rfl
set_option maxRecDepth 100000
theorem con_mxSameAll (a b : List (List Int)) (ha : a.length ≤ 1000000) (hr : ∀ x ∈ a, x.length ≤ 1000000) : Con Try.prog 16 [vm 0 a, vm 0 b] [] fun r _ => r = vb (a == b) := by
 refine Con.intro Try.func16 rfl Try.ntmps16 Try.results16 (by kernel_rfl) (by simp) 0 (by simp) ?_
 by_cases hl : a.length = b.length
 case neg =>
  have hb : ((a.length : Int) != (b.length : Int)) = true := bne_iff_ne.2 (by omega)
  have e : (a == b) = false := by rw [beq_eq_false_iff_ne]; intro e; exact hl (by rw [e])
  simp only [go_sem, hb, e]
 have hb : ((a.length : Int) != (b.length : Int)) = false := by rw [hl]; simp
 simp only [go_sem, hb]
 refine LoopK.intro (fun i : Nat => ⟨27, [(0, vm 0 a), (1, vm 0 b), (5, vi i)], []⟩)
  (fun i => a.length - i) (fun i => i ≤ a.length ∧ ∀ j, j < i → a[j]! = b[j]!) 0 ⟨by omega, fun j hj => by omega⟩ ?_ ?_
 ·simp only [go_sem]
 rintro i ⟨hi, he⟩
 by_cases h : i < a.length
 ·have h2 : i < b.length := by omega
  have g1 := getm h
  have g2 := getm h2
  have hw : IntKind.i64.wrap (i + 1) = i + 1 := wrap_in (by omega) (by omega)
  simp only [go_sem, h]
  refine DrawK.walk 10 mixed (by kernel_rfl) ?_
  simp only [go_sem, h, h2, g1, g2]
  refine CallY.mk (con_rsameI a[i]! b[i]! (hr _ (mem_bang h))) (by simp only [go_sem]) (by simp only [go_sem]) (.inl (by simp only [go_sem])) ?_
  cases hc : (a[i]! == b[i]!)
  ·have e : (a == b) = false := by rw [beq_eq_false_iff_ne] at hc ⊢; intro e; exact hc (by rw [e])
   simp only [go_sem, e]
  ·simp only [go_sem, hw]
   refine roundK.intro (i + 1) ⟨by omega, fun j hj => ?_⟩ (by omega) ?_
   ·by_cases hji : j = i
    ·subst hji; exact beq_iff_eq.1 hc
    ·exact he j (by omega)
   ·simp only [go_sem]
 ·have e : (a == b) = true := beq_iff_eq.2 (tuM_ext hl fun q hq => he q (by omega))
  simp only [go_sem, h, e]
set_option maxHeartbeats 8000000
def ofS' (c : List (List Int)) : List (List Int) := if schF c = 0 then ofS c else []
theorem con_OfW (c : List (List Int)) (hF : Fits c) : Con Try.prog 14 [vm 0 c] [] fun r _ => r = .tup [vm 2 (ofS' c), vi (schF c)] :=
 Con.le (con_Of c hF fun h => of_few6 h) fun r b h => by
  subst h
  refine ⟨_, ?_, rfl⟩
  unfold ofR ofS'
  by_cases h : schF c = 0
  ·rw [if_pos h, if_pos h, h]; exact leV_refl _
  ·rw [if_neg h, if_neg h]
   exact leV_tup ⟨leV_nil 2 1, leV_refl _, trivial⟩
theorem con_rOfW (c : List (List Int)) (hF : Fits c) : Con Try.prog 15 [vm 0 c] [] fun r _ => r = .tup [vm 0 (ofS' c), vi (schF c)] :=
 Con.le (con_rOf11 c hF) fun r b h => by
  subst h
  refine ⟨_, ?_, rfl⟩
  unfold ofR0 ofS'
  by_cases h : schF c = 0
  ·rw [if_pos h, if_pos h, h]; exact leV_refl _
  ·rw [if_neg h, if_neg h]
   exact leV_tup ⟨leV_nil 0 1, leV_refl _, trivial⟩
theorem ofS'_ok (c : List (List Int)) : (ofS' c).length ≤ 12 ∧ ∀ x ∈ ofS' c, x.length ≤ 1000000 := by
 unfold ofS'
 by_cases h : schF c = 0
 ·have hc := sch_change h
  rw [if_pos h]
  exact ⟨by rw [ofS_len]; exact of_few6 hc, fun x hx => by rw [ofS_row hc x hx]; have := hc.six; omega⟩
 ·rw [if_neg h]
  exact ⟨by simp, fun x hx => by cases hx⟩
theorem getmm {l : List (List (List Int))} {i : Nat} (h : i < l.length) : (l.map (vm 0))[i]? = some (.sl 0 1 (l[i]!.map (vs 0))) := by simp [vm, h]
theorem con_mxExactLaw (l : List Int) (raw : List (List Int)) (y start v : List Int) (place : Int) (hrawl : raw.length ≤ 9223372036854775807) :
  Con Try.prog 3 [vs 0 l, vm 0 raw, vs 0 y, vs 0 start, vs 0 v, vi place] [] fun r _ => r = vb true := by
 refine Con.intro Try.func3 rfl Try.ntmps3 Try.results3 (by kernel_rfl) (by simp) 0 (by simp) ?_
 simp only [go_sem]
 refine CallU.free con_awake (by simp only [go_sem]) (by simp only [go_sem]) ?_
 rintro r bx rfl
 simp only [go_sem]
 refine CallU.free (con_few l 0 (by omega)) (by simp only [go_sem]) (by simp only [go_sem]) ?_
 rintro r bx rfl
 by_cases hf : l.length ≤ 400
 case neg =>
  simp only [go_sem, hf]
  refine CallU.free con_awake (by simp only [go_sem]) (by simp only [go_sem]) ?_
  rintro r bx rfl
  simp only [go_sem]
 simp only [go_sem, hf]
 refine CallU.free (con_mxNarrow raw hrawl) (by simp only [go_sem]) (by simp only [go_sem]) ?_
 rintro r bx rfl
 cases hna : narF raw
 case false =>
  simp only [go_sem]
  refine CallU.free con_awake (by simp only [go_sem]) (by simp only [go_sem]) ?_
  rintro r bx rfl
  simp only [go_sem]
 have hraw := narF_fits hna
 by_cases h1 : 20 < y.length
 ·simp only [go_sem, h1]
  refine CallU.free con_awake (by simp only [go_sem]) (by simp only [go_sem]) ?_
  rintro r bx rfl
  simp only [go_sem]
 by_cases h2 : 20 < start.length
 ·simp only [go_sem, h1, h2]
  refine CallU.free con_awake (by simp only [go_sem]) (by simp only [go_sem]) ?_
  rintro r bx rfl
  simp only [go_sem]
 by_cases h3 : 20 < v.length
 ·simp only [go_sem, h1, h2, h3]
  refine CallU.free con_awake (by simp only [go_sem]) (by simp only [go_sem]) ?_
  rintro r bx rfl
  simp only [go_sem]
 simp only [go_sem, h1, h2, h3]
 refine CallU.news (bx0 := []) (con_dNewS l) (by simp only [go_sem]) (by simp only [go_sem]) (by simp only [go_sem]) (by simp only [go_sem]) (by simp only [go_sem]) ?_
 rintro r b ⟨rfl, rfl⟩
 have hd := mx_deck (l := l) (by omega)
 generalize seedD = s0 at hd
 obtain ⟨n, hn1, hn2, hnw⟩ := mx_next (l := l) (s := s0) (k := 5) (by omega)
 simp only [go_sem]
 refine CallU.boxes (i := 0) (is := []) (bx0 := [deckA l s0]) (con_dNext l s0 5 hd) (by simp only [go_sem]) (by simp only [go_sem]) (by simp only [go_sem]) (by simp only [go_sem]) (by simp only [go_sem]) ?_
 rintro r b ⟨rfl, rfl⟩
 have hd1 := nextS_dk (n := 5) hd
 generalize nextS l s0 5 = s1 at hd1
 obtain ⟨cols, hc1, hc2, hcw⟩ := mx_next (l := l) (s := s1) (k := 4) (by omega)
 simp only [go_sem, hnw]
 refine CallU.boxes (i := 0) (is := []) (bx0 := [deckA l s1]) (con_dNext l s1 4 hd1) (by simp only [go_sem]) (by simp only [go_sem]) (by simp only [go_sem]) (by simp only [go_sem]) (by simp only [go_sem]) ?_
 rintro r b ⟨rfl, rfl⟩
 have hd2 := nextS_dk (n := 4) hd1
 generalize nextS l s1 4 = s2 at hd2
 simp only [go_sem, hcw]
 refine CallU.boxes (i := 0) (is := []) (bx0 := [deckA l s2]) (con_dMatrix l s2 n cols hd2 (by omega) (by omega)) (by simp only [go_sem]) (by simp only [go_sem]) (by simp only [go_sem]) (by simp only [go_sem]) (by simp only [go_sem]) ?_
 rintro r b ⟨rfl, rfl⟩
 have hd3 : Dk l (mtS l s2 cols n) := mtS_dk hd2 n
 have hC1 : ChangeM (mtV l s2 cols n) := mtV_change hn1 (by omega) hc1 (by omega)
 generalize mtS l s2 cols n = s3 at hd3
 generalize mtV l s2 cols n = c1 at hC1
 have hn5 : n ≤ 5 := by omega
 have hn1000 : n ≤ 1000 := Nat.le_trans hn5 (by decide)
 have hn6 : n ≤ 6 := Nat.le_trans hn5 (by decide)
 clear hnw hcw hn2 hc2
 obtain ⟨cols2, hc3, hc4, hcw2⟩ := mx_next (l := l) (s := s3) (k := 2) ⟨by decide, by decide⟩
 have hc5 : cols2 ≤ 2 := Int.ofNat_le.1 hc4
 have hc1000 : cols2 ≤ 1000 := Nat.le_trans hc5 (by decide)
 have hc12 : cols2 ≤ 12 := Nat.le_trans hc5 (by decide)
 simp only [go_sem]
 refine CallU.boxes (i := 0) (is := []) (bx0 := [deckA l s3]) (con_dNext l s3 2 hd3) (by simp only [go_sem]) (by simp only [go_sem]) (by simp only [go_sem]) (by simp only [go_sem]) (by simp only [go_sem]) ?_
 rintro r b ⟨rfl, rfl⟩
 have hd4 := nextS_dk (n := 2) hd3
 generalize nextS l s3 2 = s4 at hd4
 simp only [go_sem, hcw2]
 refine CallU.boxes (i := 0) (is := []) (bx0 := [deckA l s4]) (con_dMatrix l s4 n cols2 hd4 hn1000 hc1000) (by simp only [go_sem]) (by simp only [go_sem]) (by simp only [go_sem]) (by simp only [go_sem]) (by simp only [go_sem]) ?_
 rintro r b ⟨rfl, rfl⟩
 have hd5 : Dk l (mtS l s4 cols2 n) := mtS_dk hd4 n
 have hC2 : ChangeM (mtV l s4 cols2 n) := mtV_change hn1 hn6 hc3 hc12
 generalize mtS l s4 cols2 n = s5 at hd5
 generalize mtV l s4 cols2 n = c2 at hC2
 clear hcw2 hc4
 obtain ⟨CS, hCS⟩ : ∃ CS, CS = [raw, c1, c2] := ⟨_, rfl⟩
 have hCl : CS.length = 3 := by rw [hCS]; rfl
 have hCF : ∀ c ∈ CS, Fits c := fun c hc => by
  rw [hCS] at hc
  simp only [List.mem_cons, List.not_mem_nil, or_false] at hc
  rcases hc with rfl | rfl | rfl
  ·exact hraw
  ·exact hC1.valid.fits
  ·exact hC2.valid.fits
 have hCm : [AV.sl 0 1 (raw.map (vs 0)), AV.sl 0 1 (c1.map (vs 0)), AV.sl 0 1 (c2.map (vs 0))] = CS.map (vm 0) := by rw [hCS]; rfl
 clear hC1 hC2
 simp only [go_sem, hCm]
 refine LoopK.intro (fun p : Nat × DS => ⟨228, [(2, vs 0 y), (3, vs 0 start), (4, vs 0 v), (5, vi place), (13, .pb 0 0), (14, vi n), (87, .sl 5632 1 (CS.map (vm 0))), (88, vi CS.length), (89, vi p.1)], [deckA l p.2]⟩)
  (fun p => CS.length - p.1) (fun p => p.1 ≤ CS.length ∧ Dk l p.2) (0, s5) ⟨by show 0 ≤ CS.length; omega, hd5⟩ ?_ ?_
 ·simp only [go_sem, hCl]
  all_goals exact leV_int (by omega)
 rintro ⟨i, s⟩ ⟨hi, hs⟩
 simp only at hi hs
 by_cases h : i < CS.length
 case neg =>
  simp only [go_sem, h]
 have hg := getmm h
 have hw : IntKind.i64.wrap (i + 1) = i + 1 := wrap_in (by omega) (by omega)
 have hF := hCF _ (mem_bang h)
 generalize CS[i]! = c at hg hF
 have hOf := con_OfW c hF
 have hrOf := con_rOfW c hF
 obtain ⟨S1, S2⟩ := ofS'_ok c
 have hcs := con_mxSameAll (ofS' c) (ofS' c) (by omega) S2
 rw [beq_self_eq_true] at hcs
 generalize ofS' c = S at hOf hrOf hcs S1 S2
 have hH := con_Holds c y hF (by omega)
 have hrH := con_rHolds11 c y hF (by omega)
 generalize sflowF c y = bH at hH hrH
 have he : (schF c != schF c) = false := by simp
 simp only [go_sem, h, hg]
 refine CallU.free hOf (by simp only [go_sem]) (by simp only [go_sem]) ?_
 rintro r bx rfl
 simp only [go_sem]
 refine CallU.free hrOf (by simp only [go_sem]) (by simp only [go_sem]) ?_
 rintro r bx rfl
 simp only [go_sem, he]
 refine CallU.flat hcs (by simp only [go_sem]) (by simp only [go_sem]) ?_
 rintro r bx rfl
 simp only [go_sem]
 refine CallU.free hH (by simp only [go_sem]) (by simp only [go_sem]) ?_
 rintro r bx rfl
 simp only [go_sem]
 refine CallU.free hrH (by simp only [go_sem]) (by simp only [go_sem]) ?_
 rintro r bx rfl
 have hbb : (bH != bH) = false := by simp
 simp only [go_sem]
 refine CallU.boxes (i := 0) (is := []) (bx0 := [deckA l s]) (con_dSmallF l s n 5 hs (by omega) (by omega)) (by simp only [go_sem]) (by simp only [go_sem]) (by simp only [go_sem]) (by simp only [go_sem]) (by simp only [go_sem]) ?_
 rintro r b ⟨rfl, rfl⟩
 have hs6 : Dk l (smS l s 5 n) := smS_dk hs n
 have hsml : (smV l s 5 n).length = n := smV_len n
 generalize smS l s 5 n = s6 at hs6
 generalize smV l s 5 n = sm at hsml
 obtain ⟨ST, hST⟩ : ∃ ST, ST = [start, sm] := ⟨_, rfl⟩
 have hSTl : ST.length = 2 := by rw [hST]; rfl
 have hSTb : ∀ x ∈ ST, x.length ≤ 20 := fun x hx => by
  rw [hST] at hx
  simp only [List.mem_cons, List.not_mem_nil, or_false] at hx
  rcases hx with rfl | rfl <;> omega
 have hSTm : [AV.sl 0 1 (start.map vi), AV.sl 0 1 (sm.map vi)] = ST.map (vs 0) := by rw [hST]; rfl
 simp only [go_sem]
 refine LoopK.intro (fun p : Nat × DS => ⟨228, [(2, vs 0 y), (3, vs 0 start), (4, vs 0 v), (5, vi place), (13, .pb 0 0), (14, vi n), (16, vm 0 c), (87, .sl 5632 1 (CS.map (vm 0))), (88, vi CS.length), (89, vi i), (125, .sl 8064 1 (ST.map (vs 0))), (126, vi ST.length), (127, vi p.1)], [deckA l p.2]⟩)
  (fun p => ST.length - p.1) (fun p => p.1 ≤ ST.length ∧ Dk l p.2) (0, s6) ⟨by show 0 ≤ ST.length; omega, hs6⟩ ?_ ?_
 ·simp only [go_sem, hSTm, hSTl]
  all_goals exact leV_int (by omega)
 rintro ⟨j, t⟩ ⟨hj, ht⟩
 simp only at hj ht
 by_cases hjl : j < ST.length
 case neg =>
  simp only [go_sem, hjl, hw]
  refine roundK.intro (i + 1, t) ⟨by show i + 1 ≤ CS.length; omega, ht⟩ (by show CS.length - (i + 1) < CS.length - i; omega) ?_
  simp only [go_sem]
 have hgj := getm hjl
 have hwj : IntKind.i64.wrap (j + 1) = j + 1 := wrap_in (by omega) (by omega)
 have hstl := hSTb _ (mem_bang hjl)
 generalize ST[j]! = st at hgj hstl
 have hcn := con_dNext l t n ht
 have ht' : Dk l (nextS l t n) := nextS_dk ht
 generalize nextS l t n = t' at hcn ht'
 generalize nextV l t n = nx at hcn
 obtain ⟨PL, hPL⟩ : ∃ PL, PL = [place, nx] := ⟨_, rfl⟩
 have hPLl : PL.length = 2 := by rw [hPL]; rfl
 have hPLm : [AV.sc (.int .i64 place), AV.sc (.int .i64 nx)] = PL.map vi := by rw [hPL]; rfl
 simp only [go_sem, hjl, hgj]
 refine CallU.boxes (i := 0) (is := []) (bx0 := [deckA l t]) hcn (by simp only [go_sem]) (by simp only [go_sem]) (by simp only [go_sem]) (by simp only [go_sem]) (by simp only [go_sem]) ?_
 rintro r b ⟨rfl, rfl⟩
 simp only [go_sem]
 refine LoopK.intro (fun k : Nat => ⟨228, [(2, vs 0 y), (3, vs 0 start), (4, vs 0 v), (5, vi place), (13, .pb 0 0), (14, vi n), (16, vm 0 c), (22, vs 0 st), (87, .sl 5632 1 (CS.map (vm 0))), (88, vi CS.length), (89, vi i), (125, .sl 8064 1 (ST.map (vs 0))), (126, vi ST.length), (127, vi j), (135, vs 8704 PL), (136, vi PL.length), (137, vi k)], [deckA l t']⟩)
  (fun k => PL.length - k) (fun k => k ≤ PL.length) 0 (by omega) ?_ ?_
 ·simp only [go_sem, hPLm, hPLl]
  all_goals exact leV_int (by omega)
 intro k hk
 by_cases hkl : k < PL.length
 ·have hgk := getv hkl
  have hwk : IntKind.i64.wrap (k + 1) = k + 1 := wrap_in (by omega) (by omega)
  generalize PL[k]! = pk at hgk
  have hB := con_Bound c st pk hF (by omega) fun h => of_few6 h
  have hrB := con_rBound11 c st pk hF (by omega)
  obtain ⟨b1, b2, b3⟩ := boundR c st pk
  have x1 : (b1 != b1) = false := by simp
  have x2 : (b2 != b2) = false := by simp
  have x3 : (b3 != b3) = false := by simp
  simp only [go_sem, hkl, hgk]
  refine CallU.free hB (by simp only [go_sem]) (by simp only [go_sem]) ?_
  rintro r bx rfl
  simp only [go_sem]
  refine CallU.free hrB (by simp only [go_sem]) (by simp only [go_sem]) ?_
  rintro r bx rfl
  simp only [go_sem, hwk]
  refine roundK.intro (k + 1) (by omega) (by omega) ?_
  simp only [go_sem]
 simp only [go_sem, hkl]
 refine CallU.boxes (i := 0) (is := []) (bx0 := [deckA l t']) (con_dSmallF l t' n 5 ht' (by omega) (by omega)) (by simp only [go_sem]) (by simp only [go_sem]) (by simp only [go_sem]) (by simp only [go_sem]) (by simp only [go_sem]) ?_
 rintro r b ⟨rfl, rfl⟩
 have ht6 : Dk l (smS l t' 5 n) := smS_dk ht' n
 have hsml2 : (smV l t' 5 n).length = n := smV_len n
 generalize smS l t' 5 n = t6 at ht6
 generalize smV l t' 5 n = sm2 at hsml2
 obtain ⟨Z, hZ⟩ : ∃ Z, Z = [v, sm2] := ⟨_, rfl⟩
 have hZl : Z.length = 2 := by rw [hZ]; rfl
 have hZb : ∀ x ∈ Z, x.length ≤ 20 := fun x hx => by
  rw [hZ] at hx
  simp only [List.mem_cons, List.not_mem_nil, or_false] at hx
  rcases hx with rfl | rfl <;> omega
 have hZm : [AV.sl 0 1 (v.map vi), AV.sl 0 1 (sm2.map vi)] = Z.map (vs 0) := by rw [hZ]; rfl
 simp only [go_sem]
 refine LoopK.intro (fun k : Nat => ⟨228, [(2, vs 0 y), (3, vs 0 start), (4, vs 0 v), (5, vi place), (13, .pb 0 0), (14, vi n), (16, vm 0 c), (22, vs 0 st), (87, .sl 5632 1 (CS.map (vm 0))), (88, vi CS.length), (89, vi i), (125, .sl 8064 1 (ST.map (vs 0))), (126, vi ST.length), (127, vi j), (175, .sl 11264 1 (Z.map (vs 0))), (176, vi Z.length), (177, vi k)], [deckA l t6]⟩)
  (fun k => Z.length - k) (fun k => k ≤ Z.length) 0 (by omega) ?_ ?_
 ·simp only [go_sem, hZm, hZl]
  all_goals exact leV_int (by omega)
 intro k hk2
 by_cases hkl2 : k < Z.length
 ·have hgk := getm hkl2
  have hwk : IntKind.i64.wrap (k + 1) = k + 1 := wrap_in (by omega) (by omega)
  have hzl := hZb _ (mem_bang hkl2)
  generalize Z[k]! = z at hgk hzl
  have hA := con_Allows c st z hF (by omega) (by omega) fun h => of_few6 h
  have hrA := con_rAllows11 c st z hF (by omega) (by omega)
  have hV := con_Value y z (by omega) (by omega)
  have hrV := con_rValue11 y z (by omega) (by omega)
  obtain ⟨a1, a2⟩ := allowsR c st z
  obtain ⟨w1, w2⟩ := valueR y z
  have x1 : (a1 != a1) = false := by simp
  have x2 : (a2 != a2) = false := by simp
  have x3 : (w1 != w1) = false := by simp
  have x4 : (w2 != w2) = false := by simp
  simp only [go_sem, hkl2, hgk]
  refine CallU.free hA (by simp only [go_sem]) (by simp only [go_sem]) ?_
  rintro r bx rfl
  simp only [go_sem]
  refine CallU.free hrA (by simp only [go_sem]) (by simp only [go_sem]) ?_
  rintro r bx rfl
  simp only [go_sem]
  refine CallU.free hV (by simp only [go_sem]) (by simp only [go_sem]) ?_
  rintro r bx rfl
  simp only [go_sem]
  refine CallU.free hrV (by simp only [go_sem]) (by simp only [go_sem]) ?_
  rintro r bx rfl
  simp only [go_sem, hwk]
  refine roundK.intro (k + 1) (by omega) (by omega) ?_
  simp only [go_sem]
 simp only [go_sem, hkl2, hwj]
 refine roundK.intro (j + 1, t6) ⟨by show j + 1 ≤ ST.length; omega, ht6⟩ (by show ST.length - (j + 1) < ST.length - j; omega) ?_
 simp only [go_sem]
end Go.AM
