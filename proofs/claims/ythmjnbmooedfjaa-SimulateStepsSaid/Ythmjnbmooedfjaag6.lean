/-
  Plain laws: the greatest simulation.
  Walks: Greatest.
  Walks: Simulates.
  An abstract machine: variables of rounds that are over.
  Walks: comparisons of configurations: values with values below them.
  Walks: the reference: what it compares and checks.
  Walks: the reference's comparisons of systems and relations.
  Walks: the reference's step of the simulation.
  Walks: the reference's Greatest.
  Walks: Holds.
  Walks: the reference's Simulates and Holds.
  Walks: lists that are in order: Clip, Compact, Sort.
  The abstract machine: the library's Sort and Compact at lists of integers that the call owns: contracts off the shelf, over any program.
  Walks: Sort and Compact, at any list that the call owns.
  Walks: after, at states behind which the list is in order.
  Walks: Compact, at any list that the call owns.
  Walks: a pair's key.
  Walks: Trace at the chapter's example; Accepts.
  Walks: after, labels, at any states.
  Walks: the sanity check.
-/
import Derived.Test.Ythmjnbmooedfjaag5
import Derived.Test.Ythmjnbmooedfjaag3
import Derived.Shelf.Sort.Plain
import Derived.Shelf.Slices.CompactI
/-! ## Lb -/
namespace Go.AM

/-- all pairs -/
def fullR (n m : Nat) : Rel := List.replicate n (List.replicate m true)
/-- nothing more is to be taken out -/
def Fixed (a b : Sys) (r : Rel) : Prop := ∀ x y, x < a.length → y < b.length → rel r x y = true → matchesF r a b x y = true

/-- what Greatest returns -/
def IsGreatest (a b : Sys) (r : Rel) : Prop := Sized r a.length b.length ∧ Red a b (fullR a.length b.length) r ∧ Fixed a b r

/-- arcs lead to states -/
def Inside (s : Sys) : Prop := ∀ l ∈ s, ∀ q ∈ l, 0 ≤ q.2 ∧ q.2 < s.length

/-- a simulation -/
def IsSim (a b : Sys) (S : Nat → Nat → Prop) : Prop := ∀ x y, x < a.length → y < b.length → S x y → ∀ p ∈ a[x]!, ∃ q ∈ b[y]!, q.1 = p.1 ∧ S p.2.toNat q.2.toNat

theorem matchesF_iff {r : Rel} {a b : Sys} {x y : Nat} : matchesF r a b x y = true ↔ ∀ p ∈ a[x]!, ∃ q ∈ b[y]!, q.1 = p.1 ∧ rel r p.2.toNat q.2.toNat = true := by
  simp only [matchesF, List.all_eq_true, List.any_eq_true, Bool.and_eq_true, beq_iff_eq, within, rel]

theorem IsGreatest.sim {a b : Sys} {r : Rel} (h : IsGreatest a b r) : IsSim a b fun x y => rel r x y = true :=
  fun x y hx hy hr => matchesF_iff.1 (h.2.2 x y hx hy hr)

theorem rel_full {n m x y : Nat} (hx : x < n) (hy : y < m) : rel (fullR n m) x y = true := by
  have h1 : (fullR n m)[x]! = List.replicate m true := by rw [getElem!_pos _ x (by simpa [fullR] using hx)]; simp [fullR]
  unfold rel
  rw [h1, getElem!_pos _ y (by simpa using hy)]; simp

theorem rel_cut {r : Rel} {x y i j : Nat} (hx : x < r.length) (hj : j < r[i]!.length) (hi : i < r.length) : rel (cutR r x y) i j = if i = x ∧ j = y then false else rel r i j := by
  unfold rel cutR
  by_cases h : i = x
  · subst h
    rw [getElem!_pos (r.set i _) i (by simpa using hi), List.getElem_set_self]
    by_cases h2 : j = y
    · subst h2
      rw [getElem!_pos _ j (by simpa using hj), List.getElem_set_self]; simp
    · rw [getElem!_pos _ j (by simpa using hj), List.getElem_set_ne (Ne.symm h2), ← getElem!_pos r[i]! j hj]; simp [h2]
  · rw [getElem!_pos (r.set x _) i (by simpa using hi), List.getElem_set_ne (Ne.symm h), ← getElem!_pos r i hi]; simp [h]

theorem full_sized (n m : Nat) : Sized (fullR n m) n m := ⟨by simp [fullR], fun row hr => by have := List.eq_of_mem_replicate hr; rw [this]; simp⟩

/-- every simulation is within what is left -/
theorem Red.holds {a b : Sys} {S : Nat → Nat → Prop} (hS : IsSim a b S) (ha : Inside a) (hb : Inside b) {r s : Rel} (h : Red a b r s) (hr : Sized r a.length b.length)
    (hw : ∀ x y, x < a.length → y < b.length → S x y → rel r x y = true) : ∀ x y, x < a.length → y < b.length → S x y → rel s x y = true := by
  induction h with
  | refl => exact hw
  | cut t i j ht hi hj hm ih =>
    intro x y hx hy hs
    have hsz := ht.sized rfl hr
    have hil : i < t.length := by rw [hsz.1]; exact hi
    have hxl : x < t.length := by rw [hsz.1]; exact hx
    rw [rel_cut hil (by rw [hsz.2 _ (mem_bang hxl)]; exact hy) hxl]
    split
    · rename_i he
      obtain ⟨rfl, rfl⟩ := he
      have : matchesF t a b x y = true := matchesF_iff.2 fun p hp => by
        obtain ⟨q, hq, h1, h2⟩ := hS x y hx hy hs p hp
        have e1 := ha _ (mem_bang hx) p hp
        have e2 := hb _ (mem_bang hy) q hq
        exact ⟨q, hq, h1, ih _ _ (by omega) (by omega) h2⟩
      rw [this] at hm; cases hm
    · exact ih x y hx hy hs

theorem IsGreatest.greatest {a b : Sys} {r : Rel} (h : IsGreatest a b r) (ha : Inside a) (hb : Inside b) {S : Nat → Nat → Prop} (hS : IsSim a b S) {x y : Nat} (hx : x < a.length) (hy : y < b.length) (hs : S x y) : rel r x y = true :=
  h.2.1.holds hS ha hb (full_sized _ _) (fun _ _ hx hy _ => rel_full hx hy) x y hx hy hs

theorem exists_fixed {a b : Sys} : ∀ (n : Nat) (r : Rel), tally r ≤ n → Sized r a.length b.length → ∃ s, Red a b r s ∧ Fixed a b s
  | n, r, hn, hr => by
    by_cases hf : Fixed a b r
    · exact ⟨r, .refl r, hf⟩
    · have : ∃ x y, x < a.length ∧ y < b.length ∧ rel r x y = true ∧ matchesF r a b x y = false := by
        apply Classical.byContradiction
        intro hc
        exact hf fun x y hx hy h => by
          cases hm : matchesF r a b x y
          · exact absurd ⟨x, y, hx, hy, h, hm⟩ hc
          · rfl
      obtain ⟨x, y, hx, hy, h, hm⟩ := this
      have hxl : x < r.length := by rw [hr.1]; exact hx
      have ht := tally_cut hxl (by rw [hr.2 _ (mem_bang hxl)]; exact hy) h
      cases n with
      | zero => omega
      | succ n =>
        obtain ⟨s, h1, h2⟩ := exists_fixed n (cutR r x y) (by omega) (hr.cut hx)
        exact ⟨s, (Red.cut r r x y (.refl r) hx hy hm).trans h1, h2⟩

/-- there is a greatest simulation -/
theorem exists_greatest (a b : Sys) : ∃ R, IsGreatest a b R := by
  obtain ⟨s, h1, h2⟩ := exists_fixed (a := a) (b := b) _ _ (Nat.le_refl _) (full_sized a.length b.length)
  exact ⟨s, h1.sized rfl (full_sized _ _), h1, h2⟩

/-- simulation is reflexive -/
theorem great_refl {a : Sys} {r : Rel} (h : IsGreatest a a r) (ha : Inside a) {x : Nat} (hx : x < a.length) : rel r x x = true :=
  h.greatest ha ha (S := fun x y => x = y) (fun x y hx hy he p hp => ⟨p, by rw [← he]; exact hp, rfl, rfl⟩) hx hx rfl

/-- simulation is transitive -/
theorem great_trans {a b c : Sys} {r s t : Rel} (h1 : IsGreatest a b r) (h2 : IsGreatest b c s) (h3 : IsGreatest a c t) (ha : Inside a) (hb : Inside b) (hc : Inside c) {x y z : Nat} (hx : x < a.length) (hy : y < b.length) (hz : z < c.length)
    (hr : rel r x y = true) (hs : rel s y z = true) : rel t x z = true := by
  refine h3.greatest ha hc (S := fun x z => ∃ y, y < b.length ∧ rel r x y = true ∧ rel s y z = true) ?_ hx hz ⟨y, hy, hr, hs⟩
  rintro x z hx hz ⟨y, hy, e1, e2⟩ p hp
  obtain ⟨q, hq, k1, k2⟩ := h1.sim x y hx hy e1 p hp
  obtain ⟨u, hu, k3, k4⟩ := h2.sim y z hy hz e2 q hq
  have hqi := hb _ (mem_bang hy) q hq
  exact ⟨u, hu, k3.trans k1, q.2.toNat, by omega, k2, k4⟩

/-- the system that can do all -/
def allS : Sys := [[(0, 0), (1, 0), (2, 0)]]
theorem great_all {a : Sys} {r : Rel} (h : IsGreatest a allS r) (ha : Inside a) (hl : ∀ l ∈ a, ∀ q ∈ l, 0 ≤ q.1 ∧ q.1 < 3) {x : Nat} (hx : x < a.length) : rel r x 0 = true := by
  refine h.greatest ha (fun l hl q hq => ?_) (S := fun _ y => y = 0) ?_ hx (by decide) rfl
  · simp only [allS, List.mem_singleton] at hl
    subst hl
    simp only [List.mem_cons, List.not_mem_nil, or_false] at hq
    rcases hq with rfl | rfl | rfl <;> decide
  · rintro x y hx hy rfl p hp
    have := hl _ (mem_bang hx) p hp
    refine ⟨(p.1, 0), ?_, rfl, rfl⟩
    have h3 : p.1 = 0 ∨ p.1 = 1 ∨ p.1 = 2 := by omega
    rcases h3 with h3 | h3 | h3 <;> rw [h3] <;> simp [allS]
end Go.AM

/-! ## W8 -/
namespace Go.AM
open Go Go.Proofs Go.RowKit

/-- what a callee hands back, under another tag -/
theorem Con.retag {P : Program} {f : FuncId} {args : List AV} {bx : List (List AV)} {post : AV → Prop} (a b : Nat) (ha : 2 ≤ a) (hb : 2 ≤ b) (h : Con P f args bx fun r _ => post r) :
    Con P f args bx fun r' _ => ∃ r, post r ∧ r' = r.mapTop (retagLeaf a b) :=
  ⟨h.1, fun G w vs h1 h2 h3 h4 h5 => (h.2 G w vs h1 h2 h3 h4 h5).mono fun e w' ⟨v, r, bx', G', he, hq, hr, hg, hbx, hlt, e1, e2, e3, e4, e5, e6⟩ => by
    have hbox : ∀ k i, retagG a b G' k = .box i → G' k = .box i := fun k i hk => by
      unfold retagG at hk; split at hk
      · cases hk
      · split at hk
        · cases hk
        · exact hk
    refine ⟨v, _, bx'.map (fun cs => cs.map (AV.mapTop (retagLeaf a b))), retagG a b G', he, ⟨r, hq, rfl⟩, hr.retag ha hb, hg.retag, ⟨fun i vs hv => by simp [noGh] at hv, fun i cs hi => ?_⟩, fun k i hk => by simpa using hlt k i (hbox k i hk), e1, e2, e3, e4, fun k hk => ?_, e6⟩
    · rw [List.getElem?_map] at hi
      cases hc : bx'[i]? with
      | none => simp [hc] at hi
      | some cs' =>
        simp [hc] at hi; subst hi
        exact (hbx.cell i cs' hc).map (fun x v hr => hr.retag ha hb) (fun k hk => ⟨by simp [retagG, hk], rfl⟩) fun h0 k hk => h0 k (hbox k i hk)
    · have := e5 k hk
      unfold retagG
      rw [this, if_neg (h2 k a), if_neg (h2 k b)]⟩

theorem con_repeat2 (n : Nat) (h1 : 1 ≤ n) (hn : n ≤ 8) : Con Try.prog 36 [vbl 0 [true], vi n] [] fun r _ => r = .sl (subT 2 0) 1 ((List.replicate n true).map vb) :=
  (Con.retag 2 (subT 2 0) (by omega) (by have := sub_big 2 0; omega) (con_repeat n h1 hn)).mono fun r bx ⟨r0, h0, h⟩ => by
    subst h0; subst h; simp [AV.mapTop, retagLeaf]

theorem checkS_ok {s : Sys} (h : checkS s = 0) : 1 ≤ s.length ∧ s.length ≤ 128 ∧ ∀ l ∈ s, ∀ q ∈ l, 0 ≤ q.2 ∧ q.2 < s.length := by
  unfold checkS at h
  split at h
  · cases h
  · rename_i hc
    simp only [Bool.or_eq_true, not_or, decide_eq_true_eq, Bool.not_eq_true] at hc
    obtain ⟨⟨⟨h1, h2⟩, h3⟩, _⟩ := hc
    refine ⟨by omega, by omega, fun l hl q hq => ?_⟩
    rw [List.any_eq_false] at h3
    have := h3 l hl
    simp only [Bool.not_eq_true] at this
    rw [List.any_eq_false] at this
    have := this q hq
    simp only [badArc, Bool.or_eq_true, decide_eq_true_eq, not_or] at this
    omega

theorem rowsB_mv {a b : Nat} {M : Rel} (ha : a < 1048576) (hb : b < 1048576) : (rowsB a M).map (mvRow a b) = rowsB b M :=
  rowsB_map fun i r => by
    have h1 : root (subT a i) = a := by rw [root_sub]; unfold root; omega
    have h2 : mvT a b (subT a i) = subT b i := by
      have e1 : a / 1048576 = 0 := by omega
      have e2 : b / 1048576 = 0 := by omega
      unfold mvT subT; rw [e1, e2]; omega
    simp only [mvRow, h1, if_true, h2]

set_option maxRecDepth 100000 in
theorem con_greatest (a b : Sys) (hab : bothS a b = 0) (ha : ∀ l ∈ a, l.length ≤ 281474976710656) (hb : ∀ l ∈ b, l.length ≤ 281474976710656) (hb8 : b.length ≤ 8) :
    Con Try.prog 16 [vy 0 a, vy 0 b] [] fun r _ => ∃ R, r = .tup [vtb 2 R, vi 0] ∧ IsGreatest a b R := by
  have hca : checkS a = 0 := by unfold bothS at hab; split at hab <;> assumption
  have hcb : checkS b = 0 := by unfold bothS at hab; rw [if_pos hca] at hab; exact hab
  obtain ⟨a1, a2, a3⟩ := checkS_ok hca
  obtain ⟨b1, b2, b3⟩ := checkS_ok hcb
  refine Con.intro Try.func16 rfl Try.ntmps16 Try.results16 (by kernel_rfl) (by simp) 0 (by simp) ?_
  simp only [go_sem]
  refine CallU.free (con_both a b ha (by omega) hb (by omega)) (by simp only [go_sem]) (by simp only [go_sem]) ?_
  rintro r bx rfl
  simp only [go_sem, hab]
  refine LoopK.intro (fun k : Nat => ⟨33, [(2, .pb 0 0), (3, .pb 1 0), (7, vtb 512 (fullR k b.length)), (16, .sc (.int .i64 a.length)), (17, .sc (.int .i64 k))], [[.sl 0 1 (a.map (vl 0))], [.sl 0 1 (b.map (vl 0))]]⟩)
    (fun k => a.length - k) (fun k => k ≤ a.length) 0 (by omega) ?_ ?_
  · simp only [go_sem, fullR, List.replicate_zero]
  · intro k hk0
    by_cases hk : k < a.length
    · have hw : IntKind.i64.wrap (k + 1) = k + 1 := wrap_in (by omega) (by omega)
      have hM : (fullR k b.length).length = k := by simp [fullR]
      have hrows : (rowsB 512 (fullR k b.length)).map (killRow 512 ∘ retagRow (subT 1664 0) (subT 512 k) ∘ retagRow (subT 1602 0) (subT 1664 0)) = rowsB 512 (fullR k b.length) := by
        rw [← List.map_map, ← List.map_map]
        have e1 : (rowsB 512 (fullR k b.length)).map (retagRow (subT 1602 0) (subT 1664 0)) = rowsB 512 (fullR k b.length) :=
          rowsB_map fun i r => by simp only [retagRow, sub_sub]; simp
        have e2 : (rowsB 512 (fullR k b.length)).map (retagRow (subT 1664 0) (subT 512 k)) = rowsB 512 (fullR k b.length) := by
          have := rowsB_retagsub (t := 512) (s := 1664) (j := 0) (M := fullR k b.length) (by simp)
          rw [hM] at this; exact this
        have e3 : (rowsB 512 (fullR k b.length)).map (killRow 512) = rowsB 512 (fullR k b.length) := rowsB_killlit (by omega)
        rw [e1, e2, e3]
      have hsn : rowsB 512 (fullR k b.length) ++ [AV.sl (subT 512 k) 1 (List.map vb (List.replicate b.length true))] = rowsB 512 (fullR (k + 1) b.length) := by
        have := rowsB_snoc (t := 512) (M := fullR k b.length) (r := List.replicate b.length true)
        rw [hM] at this; rw [this]; simp only [fullR, List.replicate_succ']
      have hmem : (List.map vb (List.replicate b.length true)).all memless = true := by simp [vb, memless]
      simp only [go_sem, hk]
      refine CallU.flat (con_repeat2 b.length b1 hb8) (by simp only [go_sem]) (by simp only [go_sem]) ?_
      rintro r bx rfl
      simp only [go_sem, hM, hrows, hsn, hmem, hw]
      refine ⟨by simp [roomFor]; omega, roundK.intro (k + 1) (by show k + 1 ≤ a.length; omega) (by show a.length - (k + 1) < a.length - k; omega) ?_⟩
      simp only [go_sem]
    · have hkn : k = a.length := by omega
      subst hkn
      simp only [go_sem, hk]
      have hfull := full_sized a.length b.length
      refine LoopK.intro (fun R : Rel => ⟨33, [(2, .pb 0 0), (3, .pb 1 0), (7, vtb 512 R)], [[.sl 0 1 (a.map (vl 0))], [.sl 0 1 (b.map (vl 0))]]⟩)
        (fun R => tally R) (fun R => Red a b (fullR a.length b.length) R) (fullR a.length b.length) (.refl _) ?_ ?_
      · simp only [go_sem]
      intro R hR
      have hs : Sized R a.length b.length := hR.sized rfl hfull
      have hRl : R.length = a.length := hs.1
      have ca : Closed1 a := ⟨a2, fun l hl => ⟨ha l hl, a3 l hl⟩⟩
      have cb : Closed1 b := ⟨b2, fun l hl => ⟨hb l hl, b3 l hl⟩⟩
      simp only [go_sem]
      refine CallU.back (con_refine R a b hs ca cb) (by simp only [go_sem]) (by simp only [go_sem]) ?_
      rintro r ys ⟨R', c, rfl, rfl, hp⟩
      have hs' : Sized R' a.length b.length := hp.red.sized rfl hs
      have hRl' : R'.length = a.length := hs'.1
      have hpos : 0 < a.length := a1
      simp only [go_sem, hRl, hpos]
      cases c
      · simp only [go_sem]
        obtain ⟨rfl, h1, _⟩ := hp.same rfl
        exact ⟨R', rfl, hs', hR, fun x y hx hy hr => h1 x y hx hy hr⟩
      · simp only [go_sem]
        refine roundK.mv 2050 512 (by omega) (by omega) (by omega) R' (hR.trans hp.red) (hp.less rfl) ?_
        have hm : (rowsB 2050 R').map (mvRow 2050 512) = rowsB 512 R' := rowsB_mv (by omega) (by omega)
        have hmt : mvT 2050 512 2050 = 512 := by decide
        simp only [go_sem, hm, hmt]
end Go.AM

/-! ## W9 -/
namespace Go.AM
open Go Go.Proofs Go.RowKit

/-- what Simulates returns, of valid systems -/
def Sim00 (a b : Sys) (v : Bool) : Prop := ∃ R, IsGreatest a b R ∧ v = rel R 0 0

set_option maxRecDepth 100000 in
theorem con_simulates (a b : Sys) (hab : bothS a b = 0) (ha : ∀ l ∈ a, l.length ≤ 281474976710656) (hb : ∀ l ∈ b, l.length ≤ 281474976710656) (hb8 : b.length ≤ 8) :
    Con Try.prog 12 [vy 0 a, vy 0 b] [] fun r _ => ∃ v, r = .tup [.sc (.bool v), vi 0] ∧ Sim00 a b v := by
  have hca : checkS a = 0 := by unfold bothS at hab; split at hab <;> assumption
  have hcb : checkS b = 0 := by unfold bothS at hab; rw [if_pos hca] at hab; exact hab
  obtain ⟨a1, a2, a3⟩ := checkS_ok hca
  obtain ⟨b1, b2, b3⟩ := checkS_ok hcb
  refine Con.intro Try.func12 rfl Try.ntmps12 Try.results12 (by kernel_rfl) (by simp) 0 (by simp) ?_
  simp only [go_sem]
  refine CallU.free (con_greatest a b hab ha hb hb8) (by simp only [go_sem]) (by simp only [go_sem]) ?_
  rintro r bx ⟨R, rfl, hR⟩
  have h0 : 0 < R.length := by rw [hR.1.1]; omega
  have hr0 : 0 < R[0]!.length := by rw [hR.1.2 _ (mem_bang h0)]; omega
  have g1 := gettb (t := 770) h0
  have g2 := getvb hr0
  simp only [go_sem, h0, hr0, g1, g2]

  exact ⟨_, rfl, R, hR, rfl⟩

open Classical in
/-- the one answer -/
noncomputable def simV (a b : Sys) : Bool := if Sim00 a b true then true else false

theorem Sim00.eq {a b : Sys} {v : Bool} (h : Sim00 a b v) (ha : Inside a) (hb : Inside b) (h1 : 0 < a.length) (h2 : 0 < b.length) : v = simV a b := by
  unfold simV
  obtain ⟨R, hR, hv⟩ := h
  split
  · rename_i hs
    obtain ⟨R', hR', hv'⟩ := hs
    rw [hv]
    exact hR.greatest ha hb hR'.sim h1 h2 hv'.symm
  · rename_i hs
    cases v
    · rfl
    · exact absurd ⟨R, hR, hv⟩ hs

theorem con_simulatesV (a b : Sys) (hca : checkS a = 0) (hcb : checkS b = 0) (ha : ∀ l ∈ a, l.length ≤ 281474976710656) (hb : ∀ l ∈ b, l.length ≤ 281474976710656) (hb8 : b.length ≤ 8) :
    Con Try.prog 12 [vy 0 a, vy 0 b] [] fun r _ => r = .tup [.sc (.bool (simV a b)), vi 0] :=
  (con_simulates a b (by simp [bothS, hca, hcb]) ha hb hb8).mono fun r bx ⟨v, h1, h2⟩ => by
    rw [h1, h2.eq (checkS_ok hca).2.2 (checkS_ok hcb).2.2 (checkS_ok hca).1 (checkS_ok hcb).1]

theorem dealt_check {s : Sys} (h : Dealt s) : checkS s = 0 := by
  have h1 : decide (s.length < 1) = false := decide_eq_false (by have := h.1; omega)
  have h2 : decide (128 < s.length) = false := decide_eq_false (by have := h.2.1; omega)
  have h3 : s.any (fun l => l.any (badArc s.length)) = false := by
    rw [List.any_eq_false]
    intro l hl
    simp only [Bool.not_eq_true]
    rw [List.any_eq_false]
    intro q hq
    have := (h.2.2 l hl).2 q hq
    simp only [badArc, Bool.or_eq_true, decide_eq_true_eq]
    omega
  have h4 : decide (256 < (s.map List.length).sum) = false := decide_eq_false (by
    have := sumLen_le (s := s) (B := 3) fun l hl => (h.2.2 l hl).1
    have := h.2.1; omega)
  simp only [checkS, h1, h2, h3, h4, Bool.or_self, Bool.false_eq_true, if_false]
theorem dealt_both {a b : Sys} (h1 : checkS a = 0) (h2 : checkS b = 0) : bothS a b = 0 := by simp [bothS, h1, h2]
theorem all_check : checkS allS = 0 := by decide
theorem checkS_inside {s : Sys} (h : checkS s = 0) : Inside s := (checkS_ok h).2.2
theorem dealt_len {s : Sys} (h : Dealt s) : ∀ l ∈ s, l.length ≤ 281474976710656 := fun l hl => by have := (h.2.2 l hl).1; omega
theorem all_len : ∀ l ∈ allS, l.length ≤ 281474976710656 := fun l hl => by
  simp only [allS, List.mem_singleton] at hl; subst hl; decide
end Go.AM

/-! ## Am2 -/
namespace Go.AM
open Go.RowKit

@[go_sem] theorem freeB_app {d : Nat} : ∀ (x y : List (List AV)), freeB d (x ++ y) = (freeB d x && freeB d y)
  | [], y => by simp [freeB]
  | c :: x, y => by rw [List.cons_append, freeB, freeB, freeB_app x y, Bool.and_assoc]
@[go_sem] theorem mapB_app {f : AV → AV} : ∀ (x y : List (List AV)), mapB f (x ++ y) = mapB f x ++ mapB f y
  | [], y => rfl
  | c :: x, y => by rw [List.cons_append, mapB, mapB, mapB_app x y]; rfl
theorem leB_app : ∀ {x y x' y' : List (List AV)}, leB x x' → leB y y' → leB (x ++ y) (x' ++ y')
  | [], y, [], y', _, h => h
  | [], y, c :: x', y', h, _ => by simp [leB] at h
  | c :: x, y, [], y', h, _ => by simp [leB] at h
  | c :: x, y, c' :: x', y', h, h2 => by
    simp only [leB] at h
    simp only [List.cons_append, leB]
    exact ⟨h.1, leB_app h.2 h2⟩

theorem leC_self : ∀ l : List AV, leC l l
  | [] => trivial
  | x :: l => ⟨leV_refl x, leC_self l⟩
theorem leB_self : ∀ l : List (List AV), leB l l
  | [] => trivial
  | x :: l => ⟨leC_self x, leB_self l⟩

/-- the variables of k rounds, of c cells each -/
def Rk (c k : Nat) : List (List AV) := List.replicate k (List.replicate c .any)
theorem Rk_len (c k : Nat) : (Rk c k).length = k := by simp [Rk]
theorem Rk_succ (c k : Nat) : Rk c (k + 1) = Rk c k ++ [List.replicate c .any] := by unfold Rk; rw [List.replicate_succ']
theorem Rk_succ2 (c k : Nat) : Rk c (k + 1 + 1) = Rk c k ++ [List.replicate c .any, List.replicate c .any] := by rw [Rk_succ, Rk_succ, List.append_assoc]; rfl
theorem mapTops_rep {f : AV → AV} (hf : f .any = .any) : ∀ c, mapTops f (List.replicate c .any) = List.replicate c .any
  | 0 => rfl
  | c + 1 => by rw [List.replicate_succ, mapTops, mapTops_rep hf c]; simp [AV.mapTop, hf]
theorem mapB_Rk {f : AV → AV} (hf : f .any = .any) (c : Nat) : ∀ k, mapB f (Rk c k) = Rk c k
  | 0 => rfl
  | k + 1 => by
    have := mapB_Rk hf c k
    unfold Rk at *; rw [List.replicate_succ, mapB, this, mapTops_rep hf]
@[go_sem] theorem mapB_kill_Rk {t c k : Nat} : mapB (killLeaf t) (Rk c k) = Rk c k := mapB_Rk rfl c k
@[go_sem] theorem mapB_freeze_Rk {p : Nat → Bool} {c k : Nat} : mapB (freezeLeaf p) (Rk c k) = Rk c k := mapB_Rk rfl c k
@[go_sem] theorem mapB_put_Rk {t c k : Nat} {P : Program} {a e : TypeId} {D : DataW Unit} : mapB (putMap t P a e D) (Rk c k) = Rk c k := mapB_Rk rfl c k
@[go_sem] theorem mapB_store_Rk {t es i o c k : Nat} {ys : List AV} : mapB (storeLeaf t es i o ys) (Rk c k) = Rk c k := mapB_Rk rfl c k
theorem freeA_rep {d : Nat} : ∀ c, allLeafs (freeLeaf d) (List.replicate c .any) = true
  | 0 => rfl
  | c + 1 => by rw [List.replicate_succ, allLeafs, freeA_rep c]; rfl
@[go_sem] theorem freeB_Rk {d c : Nat} : ∀ {k : Nat}, freeB d (Rk c k) = true
  | 0 => rfl
  | k + 1 => by
    have := freeB_Rk (d := d) (c := c) (k := k)
    unfold Rk at *; rw [List.replicate_succ, freeB, this, freeA_rep]; rfl
@[go_sem] theorem leB_Rk {c k : Nat} : leB (Rk c k) (Rk c k) = True := eq_true (leB_self _)
@[go_sem] theorem leB_RkS {c k : Nat} {x : List (List AV)} : leB (Rk c k ++ x) (Rk c k ++ x) = True := eq_true (leB_self _)
theorem leB_RkA {c k : Nat} {x y : List (List AV)} (h : leB x y) : leB (Rk c k ++ x) (Rk c k ++ y) := leB_app (leB_self _) h
@[go_sem] theorem leB_Rk1 {k : Nat} {x : AV} : leB (Rk 1 k ++ [[x]]) (Rk 1 k ++ [List.replicate 1 .any]) = True := eq_true (leB_RkA ⟨⟨leV_any _, trivial⟩, trivial⟩)
@[go_sem] theorem leB_Rk2 {k : Nat} {x y z u : AV} : leB (Rk 2 k ++ [[x, y], [z, u]]) (Rk 2 k ++ [List.replicate 2 .any, List.replicate 2 .any]) = True := eq_true (leB_RkA ⟨⟨leV_any _, leV_any _, trivial⟩, ⟨leV_any _, leV_any _, trivial⟩, trivial⟩)
/-- variables of which nothing is known, of so many cells -/
def Jk (cs : List Nat) : List (List AV) := cs.map fun c => List.replicate c .any
theorem Jk_len (cs : List Nat) : (Jk cs).length = cs.length := by simp [Jk]
theorem Jk_app (cs ds : List Nat) : Jk (cs ++ ds) = Jk cs ++ Jk ds := by simp [Jk]
theorem mapB_Jk {f : AV → AV} (hf : f .any = .any) : ∀ cs, mapB f (Jk cs) = Jk cs
  | [] => rfl
  | c :: cs => by
    have := mapB_Jk hf cs
    unfold Jk at *; rw [List.map_cons, mapB, this, mapTops_rep hf]
@[go_sem] theorem mapB_kill_Jk {t : Nat} {cs : List Nat} : mapB (killLeaf t) (Jk cs) = Jk cs := mapB_Jk rfl cs
@[go_sem] theorem mapB_freeze_Jk {p : Nat → Bool} {cs : List Nat} : mapB (freezeLeaf p) (Jk cs) = Jk cs := mapB_Jk rfl cs
@[go_sem] theorem mapB_put_Jk {t : Nat} {P : Program} {a e : TypeId} {D : DataW Unit} {cs : List Nat} : mapB (putMap t P a e D) (Jk cs) = Jk cs := mapB_Jk rfl cs
@[go_sem] theorem mapB_store_Jk {t es i o : Nat} {ys : List AV} {cs : List Nat} : mapB (storeLeaf t es i o ys) (Jk cs) = Jk cs := mapB_Jk rfl cs
@[go_sem] theorem mapB_retag_Jk {a b : Nat} {cs : List Nat} : mapB (retagLeaf a b) (Jk cs) = Jk cs := mapB_Jk rfl cs
@[go_sem] theorem freeB_Jk {d : Nat} : ∀ {cs : List Nat}, freeB d (Jk cs) = true
  | [] => rfl
  | c :: cs => by
    have := freeB_Jk (d := d) (cs := cs)
    unfold Jk at *; rw [List.map_cons, freeB, this, freeA_rep]; rfl
@[go_sem] theorem leB_Jk {cs : List Nat} : leB (Jk cs) (Jk cs) = True := eq_true (leB_self _)
@[go_sem] theorem leB_JkS {cs : List Nat} {x : List (List AV)} : leB (Jk cs ++ x) (Jk cs ++ x) = True := eq_true (leB_self _)
theorem leB_JkA {cs ds : List Nat} {x : List (List AV)} (h : leB x (Jk ds)) : leB (Jk cs ++ x) (Jk (cs ++ ds)) := by rw [Jk_app]; exact leB_app (leB_self _) h
/-- the variables behind others -/
theorem app_at {α : Type} {B L : List α} {n i : Nat} (h : B.length = n) : (B ++ L)[n + i]? = L[i]? := by
  rw [List.getElem?_append_right (by omega), h, Nat.add_sub_cancel_left]
theorem app_at0 {α : Type} {B L : List α} {n : Nat} (h : B.length = n) : (B ++ L)[n]? = L[0]? := app_at (i := 0) h
theorem app_at1 {α : Type} {B L : List α} {n : Nat} (h : B.length = n) : (B ++ L)[n + 1]? = L[1]? := app_at (i := 1) h
theorem app_set0 {α : Type} {B L : List α} {n : Nat} {z : α} (h : B.length = n) : (B ++ L).set n z = B ++ L.set 0 z := by
  rw [List.set_append_right _ _ (by omega), h, Nat.sub_self]
theorem app_set1 {α : Type} {B L : List α} {n : Nat} {z : α} (h : B.length = n) : (B ++ L).set (n + 1) z = B ++ L.set 1 z := by
  rw [List.set_append_right _ _ (by omega), h, Nat.add_sub_cancel_left]
theorem leV_ag {xs ys : List AV} (h : leC xs ys) : leV (.ag xs) (.ag ys) := leV_sem fun G w v hv => by
  obtain ⟨vs, rfl, h1, h2⟩ := hv.ag_inv
  have := leC_pw h h2
  exact .ag _ _ this.1 h1 this.2
theorem leV_tup {xs ys : List AV} (h : leC xs ys) : leV (.tup xs) (.tup ys) := leV_sem fun G w v hv => by
  obtain ⟨vs, rfl, h2⟩ := hv.tup_inv
  have := leC_pw h h2
  exact .tup _ _ this.1 this.2
theorem app_setN {α : Type} {B L : List α} {n i : Nat} {z : α} (h : B.length = n) : (B ++ L).set (n + i) z = B ++ L.set i z := by
  rw [List.set_append_right _ _ (by omega), h, Nat.add_sub_cancel_left]
/-- a contract of which less is said -/
theorem Con.weak {P : Program} {f : FuncId} {args : List AV} {bx : List (List AV)} {post post' : AV → List (List AV) → Prop} (h : Con P f args bx post) (hp : ∀ r b, post r b → ∃ r', post' r' b ∧ leV r r') : Con P f args bx post' :=
  ⟨h.1, fun G w vs h1 h2 h3 h4 h5 => (h.2 G w vs h1 h2 h3 h4 h5).mono fun _ _ ⟨v, r, bx', G', he, hq, hv, rest⟩ => by
    obtain ⟨r', hq', hle⟩ := hp _ _ hq
    exact ⟨v, r', bx', G', he, hq', hv.le hle, rest⟩⟩
end Go.AM

/-! ## SN -/
namespace Go.AM
open Go Go.Proofs Go.RowKit

/-- a configuration -/
inductive CV where
  | mk (n : Int) (kids : List CV)
  deriving Inhabited
def CV.n : CV → Int
  | .mk n _ => n
def CV.kids : CV → List CV
  | .mk _ k => k

mutual
def vV : CV → AV
  | .mk n kids => .ag [vi n, .sl 0 2 (vVs kids)]
def vVs : List CV → List AV
  | [] => []
  | x :: l => vV x :: vVs l
end
theorem vVs_map : ∀ l : List CV, vVs l = l.map vV
  | [] => rfl
  | x :: l => by rw [vVs, vVs_map l]; rfl
theorem vV_eq (a : CV) : vV a = .ag [vi a.n, .sl 0 2 (a.kids.map vV)] := by cases a; rw [vV, vVs_map]; rfl

def ordI (a b : Int) : Int := if a < b then -1 else if b < a then 1 else 0
mutual
def cmpV : CV → CV → Int
  | .mk n k, .mk m l => if n ≠ m then ordI n m else if k.length ≠ l.length then ordI k.length l.length else cmpVs k l
def cmpVs : List CV → List CV → Int
  | [], [] => 0
  | [], _ :: _ => -1
  | _ :: _, [] => 1
  | x :: k, y :: l => if cmpV x y ≠ 0 then cmpV x y else cmpVs k l
end
theorem ordI_zero {a b : Int} : ordI a b = 0 ↔ a = b := by unfold ordI; split <;> (try split) <;> omega
mutual
theorem cmpV_zero : ∀ (a b : CV), cmpV a b = 0 ↔ a = b
  | .mk n k, .mk m l => by
    rw [cmpV]
    by_cases h : n = m
    · rw [if_neg (fun h' => h' h)]
      by_cases h2 : k.length = l.length
      · rw [if_neg (fun h' => h' h2), cmpVs_zero k l, h]; simp
      · rw [if_pos h2, ordI_zero]
        exact ⟨fun e => absurd (by omega) h2, fun e => absurd (by injection e with _ e; rw [e]) h2⟩
    · rw [if_pos h, ordI_zero]
      exact ⟨fun e => absurd e h, fun e => absurd (by injection e) h⟩
theorem cmpVs_zero : ∀ (k l : List CV), cmpVs k l = 0 ↔ k = l
  | [], [] => by simp [cmpVs]
  | [], _ :: _ => by simp [cmpVs]
  | _ :: _, [] => by simp [cmpVs]
  | x :: k, y :: l => by
    rw [cmpVs]
    by_cases h : cmpV x y = 0
    · rw [if_neg (fun h' => h' h), cmpVs_zero k l, (cmpV_zero x y).1 h]; simp
    · rw [if_pos h]
      exact ⟨fun e => absurd e h, fun e => absurd ((cmpV_zero x y).2 (by injection e)) h⟩
end
/-- the lists below are not too long -/
inductive CV.Ok : CV → Prop
  | mk (n : Int) (k : List CV) : k.length ≤ 9223372036854775807 → (∀ x ∈ k, CV.Ok x) → CV.Ok (.mk n k)
theorem CV.Ok.len {a : CV} (h : a.Ok) : a.kids.length ≤ 9223372036854775807 := by cases h; assumption
theorem CV.Ok.kid {a : CV} (h : a.Ok) {x : CV} (hx : x ∈ a.kids) : x.Ok := by cases h with | mk n k _ h2 => exact h2 x hx
theorem kid_size {a x : CV} (h : x ∈ a.kids) : SizeOf.sizeOf x < SizeOf.sizeOf a := by
  cases a with
  | mk n k => have := List.sizeOf_lt_of_mem h; simp only [CV.kids] at *; rw [CV.mk.sizeOf_spec]; omega
theorem getvV {l : List CV} {i : Nat} (h : i < l.length) : (l.map vV)[i]? = some (.ag [.sc (.int .i64 l[i]!.n), .sl 0 2 (l[i]!.kids.map vV)]) := by
  rw [List.getElem?_map, List.getElem?_eq_getElem h, getElem!_pos l i h, Option.map_some, vV_eq]; rfl

set_option maxRecDepth 100000 in
theorem con_nan (x : Int) : Con Try.prog 89 [vi x] [] fun r _ => r = .sc (.bool false) := by
  refine Con.intro Try.func89 rfl Try.ntmps89 Try.results89 (by kernel_rfl) (by simp) 0 (by simp) ?_
  simp only [go_sem]
set_option maxRecDepth 100000 in
theorem con_cmpI (x y : Int) : Con Try.prog 91 [vi x, vi y] [] fun r _ => r = vi (ordI x y) := by
  refine Con.intro Try.func91 rfl Try.ntmps91 Try.results91 (by kernel_rfl) (by simp) 0 (by simp) ?_
  simp only [go_sem]
  refine CallU.free (con_nan x) (by simp only [go_sem]) (by simp only [go_sem]) ?_
  rintro r bx rfl
  simp only [go_sem]
  refine CallU.free (con_nan y) (by simp only [go_sem]) (by simp only [go_sem]) ?_
  rintro r bx rfl
  by_cases h1 : x < y
  · have e : ordI x y = -1 := by unfold ordI; rw [if_pos h1]
    simp only [go_sem, h1, e]
  by_cases h2 : y < x
  · have e : ordI x y = 1 := by unfold ordI; rw [if_neg h1, if_pos h2]
    simp only [go_sem, h1, h2, e]
  · have e : ordI x y = 0 := by unfold ordI; rw [if_neg h1, if_neg h2]
    simp only [go_sem, h1, h2, e]
set_option maxRecDepth 100000 in
theorem con_order93 (x y : Int) : Con Try.prog 93 [vi x, vi y] [] fun r _ => r = vi (ordI x y) := by
  refine Con.intro Try.func93 rfl Try.ntmps93 Try.results93 (by kernel_rfl) (by simp) 0 (by simp) ?_
  by_cases h1 : x < y
  · have e : ordI x y = -1 := by unfold ordI; rw [if_pos h1]
    simp only [go_sem, h1, e]
  by_cases h2 : y < x
  · have e : ordI x y = 1 := by unfold ordI; rw [if_neg h1, if_pos h2]
    simp only [go_sem, h1, h2, e]
  · have e : ordI x y = 0 := by unfold ordI; rw [if_neg h1, if_neg h2]
    simp only [go_sem, h1, h2, e]
/-- the first that is not zero -/
def orF (l : List Int) : Int := (l.find? (· != 0)).getD 0
set_option maxRecDepth 100000 in
theorem con_or (l : List Int) (hl : l.length ≤ 9223372036854775807) : Con Try.prog 90 [vs 0 l] [] fun r _ => r = vi (orF l) := by
  refine Con.intro Try.func90 rfl Try.ntmps90 Try.results90 (by kernel_rfl) (by simp) 0 (by simp) ?_
  simp only [go_sem]
  refine LoopK.intro (fun i : Nat => ⟨18, [(3, vi 0), (6, vs 0 l), (7, vi l.length), (8, vi i)], []⟩)
    (fun i => l.length - i) (fun i => i ≤ l.length ∧ orF (l.drop i) = orF l) 0 ⟨by omega, rfl⟩ ?_ ?_
  · simp only [go_sem]
  rintro i ⟨hi, he⟩
  by_cases h : i < l.length
  · have g1 := getv h
    have hw : IntKind.i64.wrap (i + 1) = i + 1 := wrap_in (by omega) (by omega)
    have hd : l.drop i = l[i]! :: l.drop (i + 1) := by rw [← List.getElem_cons_drop h, ← getElem!_pos l i h]
    rw [hd] at he
    by_cases h0 : l[i]! = 0
    · have hb : (l[i]! != 0) = false := by simp [h0]
      simp only [go_sem, h, g1, hb, hw]
      refine roundK.intro (i + 1) ⟨by omega, ?_⟩ (by omega) ?_
      · rw [← he]; unfold orF; rw [List.find?_cons_of_neg (by rw [hb]; simp)]
      · simp only [go_sem]
    · have hb : (l[i]! != 0) = true := bne_iff_ne.2 h0
      have e : orF l = l[i]! := by rw [← he]; unfold orF; rw [List.find?_cons_of_pos (by exact hb)]; rfl
      simp only [go_sem, h, g1, hb, e]
  · have e : orF l = 0 := by rw [← he, List.drop_of_length_le (by omega)]; rfl
    simp only [go_sem, h, e]

set_option maxRecDepth 100000 in
set_option maxHeartbeats 1000000 in
theorem con_cmpfn (k l : List CV) (hk : k.length ≤ 9223372036854775807) (hl : l.length ≤ 9223372036854775807)
    (hrec : ∀ x ∈ k, ∀ y ∈ l, Con Try.prog 82 [vV x, vV y] [] fun r _ => r = vi (cmpV x y)) :
    Con Try.prog 92 [.sl 0 2 (k.map vV), .sl 0 2 (l.map vV), .fn 82 []] [] fun r _ => r = vi (cmpVs k l) := by
  refine Con.intro Try.func92 rfl Try.ntmps92 Try.results92 (by kernel_rfl) (by simp) 0 (by simp) ?_
  simp only [go_sem]
  refine LoopK.intro (fun i : Nat => ⟨39, [(0, .sl 0 2 (k.map vV)), (1, .sl 0 2 (l.map vV)), (2, .fn 82 []), (11, .sl 0 2 (k.map vV)), (12, vi k.length), (13, vi i)], Rk 2 (2 * i)⟩)
    (fun i => k.length - i) (fun i => i ≤ k.length ∧ i ≤ l.length ∧ cmpVs (k.drop i) (l.drop i) = cmpVs k l) 0 ⟨by omega, by omega, rfl⟩ ?_ ?_
  · simp only [go_sem]
    first | trivial | exact leB_self _
  rintro i ⟨hi, hi2, he⟩
  by_cases h : i < k.length
  case neg =>
    have hie : i = k.length := by omega
    subst hie
    rw [List.drop_length] at he
    by_cases h2 : k.length < l.length
    · have e : cmpVs k l = -1 := by
        rw [← he]
        cases hd : l.drop k.length with
        | nil => have := congrArg List.length hd; rw [List.length_drop] at this; simp at this; omega
        | cons y t => rfl
      simp only [go_sem, h, h2, e]
    · have e : cmpVs k l = 0 := by rw [← he, List.drop_of_length_le (by omega)]; rfl
      simp only [go_sem, h, h2, e]
  have g1 := getvV h
  have hw : IntKind.i64.wrap (i + 1) = i + 1 := wrap_in (by omega) (by omega)
  have hB := Rk_len 2 (2 * i)
  have d1 : k.drop i = k[i]! :: k.drop (i + 1) := by rw [← List.getElem_cons_drop h, ← getElem!_pos k i h]
  rw [d1] at he
  have n0 := fun L : List (List AV) => app_at0 (L := L) hB
  have n1 := fun L : List (List AV) => app_at1 (L := L) hB
  have s0 := fun (L : List (List AV)) z => app_set0 (L := L) (z := z) hB
  have s1 := fun (L : List (List AV)) z => app_set1 (L := L) (z := z) hB
  by_cases h2 : i < l.length
  case neg =>
    have e : cmpVs k l = 1 := by rw [← he, show l.drop i = [] from List.drop_of_length_le (by omega)]; rfl
    have h3 : (l.length : Int) ≤ i := by omega
    simp only [go_sem, h, g1, hB, n0, s0, h3, e]
  have d2 : l.drop i = l[i]! :: l.drop (i + 1) := by rw [← List.getElem_cons_drop h2, ← getElem!_pos l i h2]
  rw [d2, cmpVs] at he
  have g2 := getvV h2
  have h3 : ¬ ((l.length : Int) ≤ i) := by omega
  have hc := hrec _ (mem_bang h) _ (mem_bang h2)
  rw [vV_eq k[i]!, vV_eq l[i]!] at hc
  simp only [go_sem, h, h2, g1, g2, hB, n0, s0, n1, s1, h3, List.append_assoc, List.length_append, List.length_cons, List.length_nil]
  refine CallU.free hc (by simp only [go_sem]) (by simp only [go_sem]) ?_
  rintro r bx rfl
  by_cases h4 : cmpV k[i]! l[i]! = 0
  · have h5 : (cmpV k[i]! l[i]! != 0) = false := by rw [h4]; rfl
    rw [if_neg (fun h' => h' h4)] at he
    simp only [go_sem, h5, hw]
    refine roundK.intro (i + 1) ⟨by omega, by omega, he⟩ (by omega) ?_
    simp only [go_sem, show 2 * (i + 1) = 2 * i + 1 + 1 by omega, Rk_succ2]
  · have h5 : (cmpV k[i]! l[i]! != 0) = true := bne_iff_ne.2 h4
    rw [if_pos h4] at he
    rw [he] at h5
    simp only [go_sem, he, h5]

theorem or_cmp (a b : CV) : orF [ordI a.n b.n, ordI a.kids.length b.kids.length, cmpVs a.kids b.kids] = cmpV a b := by
  obtain ⟨n, k⟩ := a
  obtain ⟨m, l⟩ := b
  rw [cmpV]
  simp only [CV.n, CV.kids]
  unfold orF
  by_cases h : n = m
  · rw [if_neg (fun h' => h' h), List.find?_cons_of_neg (by simp [ordI_zero, h])]
    by_cases h2 : k.length = l.length
    · rw [if_neg (fun h' => h' h2), List.find?_cons_of_neg (by simp [ordI_zero, h2])]
      by_cases h3 : cmpVs k l = 0
      · rw [List.find?_cons_of_neg (by simp [h3]), h3]; rfl
      · rw [List.find?_cons_of_pos (by simp [h3])]; rfl
    · rw [if_pos h2, List.find?_cons_of_pos (by simp [ordI_zero]; omega)]; rfl
  · rw [if_pos h, List.find?_cons_of_pos (by simp [ordI_zero, h])]; rfl

set_option maxRecDepth 100000 in
set_option maxHeartbeats 1000000 in
theorem con_compare : ∀ (N : Nat) (a b : CV), SizeOf.sizeOf a ≤ N → a.Ok → b.Ok → Con Try.prog 82 [vV a, vV b] [] fun r _ => r = vi (cmpV a b) := by
  intro N
  induction N with
  | zero => intro a b hN; cases a; simp at hN
  | succ N ih =>
  intro a b hN ha hb
  have hc := con_cmpfn a.kids b.kids ha.len hb.len fun x hx y hy => ih x y (by have := kid_size hx; omega) (ha.kid hx) (hb.kid hy)
  have hor := or_cmp a b
  rw [vV_eq a, vV_eq b]
  refine Con.intro Try.func82 rfl Try.ntmps82 Try.results82 (by kernel_rfl) (by simp) 0 (by simp) ?_
  simp only [go_sem]
  refine DrawK.walk 18 mixed (by kernel_rfl) ?_
  simp only [go_sem]
  refine CallY.mk (con_cmpI a.n b.n) (by simp only [go_sem]) (by simp only [go_sem]) (.inl rfl) ?_
  simp only [go_sem]
  refine CallY.mk (con_cmpI a.kids.length b.kids.length) (by simp only [go_sem]) (by simp only [go_sem]) (.inl rfl) ?_
  simp only [go_sem]
  refine CallY.mk hc (by simp only [go_sem]) (by simp only [go_sem]) (.inl rfl) ?_
  simp only [go_sem]
  refine CallU.flat (con_or [ordI a.n b.n, ordI a.kids.length b.kids.length, cmpVs a.kids b.kids] (by simp)) (by simp only [go_sem]) (by simp only [go_sem]) ?_
  rintro r bx rfl
  simp only [go_sem, hor]

set_option maxRecDepth 100000 in
set_option maxHeartbeats 1000000 in
theorem con_rcompare : ∀ (N : Nat) (a b : CV), SizeOf.sizeOf a ≤ N → a.Ok → b.Ok → Con Try.prog 83 [vV a, vV b] [] fun r _ => r = vi (cmpV a b) := by
  intro N
  induction N with
  | zero => intro a b hN; cases a; simp at hN
  | succ N ih =>
  intro a b hN ha hb
  have hrec : ∀ x ∈ a.kids, ∀ y ∈ b.kids, Con Try.prog 83 [vV x, vV y] [] fun r _ => r = vi (cmpV x y) := fun x hx y hy => ih x y (by have := kid_size hx; omega) (ha.kid hx) (hb.kid hy)
  have hal := ha.len
  have hbl := hb.len
  rw [vV_eq a, vV_eq b]
  have hcmp : cmpV a b = if a.n ≠ b.n then ordI a.n b.n else if a.kids.length ≠ b.kids.length then ordI a.kids.length b.kids.length else cmpVs a.kids b.kids := by cases a; cases b; rw [cmpV]; rfl
  refine Con.intro Try.func83 rfl Try.ntmps83 Try.results83 (by kernel_rfl) (by simp) 0 (by simp) ?_
  simp only [go_sem]
  by_cases h1 : a.n = b.n
  case neg =>
    have h1' : (a.n != b.n) = true := bne_iff_ne.2 h1
    rw [if_pos h1] at hcmp
    simp only [go_sem, h1']
    refine CallU.free (con_order93 a.n b.n) (by simp only [go_sem]) (by simp only [go_sem]) ?_
    rintro r bx rfl
    simp only [go_sem, hcmp]
  have h1' : (a.n != b.n) = false := by simp [h1]
  rw [if_neg (fun h => h h1)] at hcmp
  by_cases h2 : a.kids.length = b.kids.length
  case neg =>
    rw [if_pos h2] at hcmp
    simp only [go_sem, h1', h2]
    refine CallU.free (con_order93 a.kids.length b.kids.length) (by simp only [go_sem]) (by simp only [go_sem]) ?_
    rintro r bx rfl
    simp only [go_sem, hcmp]
  rw [if_neg (fun h => h h2)] at hcmp
  simp only [go_sem, h1', h2]
  refine LoopK.intro (fun i : Nat => ⟨52, [(2, .pb 0 0), (3, .pb 1 0), (5, vi i)], [[vi a.n, .sl 0 2 (a.kids.map vV)], [vi b.n, .sl 0 2 (b.kids.map vV)]]⟩)
    (fun i => a.kids.length - i) (fun i => i ≤ a.kids.length ∧ cmpVs (a.kids.drop i) (b.kids.drop i) = cmpVs a.kids b.kids) 0 ⟨by omega, rfl⟩ ?_ ?_
  · simp only [go_sem]
  rintro i ⟨hi, he⟩
  by_cases h : i < a.kids.length
  case neg =>
    have e : cmpVs a.kids b.kids = 0 := by rw [← he, List.drop_of_length_le (by omega), List.drop_of_length_le (by omega)]; rfl
    rw [e] at hcmp
    have h' : ¬ (i < b.kids.length) := by omega
    simp only [go_sem, h2, h', hcmp]
  have h' : i < b.kids.length := by omega
  have hw : IntKind.i64.wrap (i + 1) = i + 1 := wrap_in (by omega) (by omega)
  have g1 := getvV h
  have g2 := getvV h'
  have d1 : a.kids.drop i = a.kids[i]! :: a.kids.drop (i + 1) := by rw [← List.getElem_cons_drop h, ← getElem!_pos a.kids i h]
  have d2 : b.kids.drop i = b.kids[i]! :: b.kids.drop (i + 1) := by rw [← List.getElem_cons_drop h', ← getElem!_pos b.kids i h']
  rw [d1, d2, cmpVs] at he
  have hc := hrec _ (mem_bang h) _ (mem_bang h')
  rw [vV_eq a.kids[i]!, vV_eq b.kids[i]!] at hc
  simp only [go_sem, h', h2]
  refine DrawK.walk 10 mixed (by kernel_rfl) ?_
  simp only [go_sem, h', h2, g1, g2]
  refine CallU.free hc (by simp only [go_sem]) (by simp only [go_sem]) ?_
  rintro r bx rfl
  by_cases h4 : cmpV a.kids[i]! b.kids[i]! = 0
  · have h5 : (cmpV a.kids[i]! b.kids[i]! != 0) = false := by rw [h4]; rfl
    rw [if_neg (fun h' => h' h4)] at he
    simp only [go_sem, h5, hw]
    refine roundK.intro (i + 1) ⟨by omega, he⟩ (by omega) ?_
    simp only [go_sem]
  · have h5 : (cmpV a.kids[i]! b.kids[i]! != 0) = true := bne_iff_ne.2 h4
    rw [if_pos h4] at he
    rw [← he] at hcmp
    simp only [go_sem, h5, hcmp]

/-- whether two configurations are equal -/
def sameV (a b : CV) : Bool := cmpV a b == 0
theorem sameV_iff {a b : CV} : sameV a b = true ↔ a = b := by unfold sameV; rw [beq_iff_eq, cmpV_zero]

set_option maxRecDepth 100000 in
theorem con_same (a b : CV) (ha : a.Ok) (hb : b.Ok) : Con Try.prog 69 [vV a, vV b] [] fun r _ => r = .sc (.bool (sameV a b)) := by
  have hc := con_compare _ a b (Nat.le_refl _) ha hb
  rw [vV_eq a, vV_eq b] at *
  refine Con.intro Try.func69 rfl Try.ntmps69 Try.results69 (by kernel_rfl) (by simp) 0 (by simp) ?_
  simp only [go_sem]
  refine CallU.free hc (by simp only [go_sem]) (by simp only [go_sem]) ?_
  rintro r bx rfl
  simp only [go_sem, sameV]
set_option maxRecDepth 100000 in
theorem con_rsame (a b : CV) (ha : a.Ok) (hb : b.Ok) : Con Try.prog 70 [vV a, vV b] [] fun r _ => r = .sc (.bool (sameV a b)) := by
  have hc := con_rcompare _ a b (Nat.le_refl _) ha hb
  rw [vV_eq a, vV_eq b] at *
  refine Con.intro Try.func70 rfl Try.ntmps70 Try.results70 (by kernel_rfl) (by simp) 0 (by simp) ?_
  simp only [go_sem]
  refine CallU.free hc (by simp only [go_sem]) (by simp only [go_sem]) ?_
  rintro r bx rfl
  simp only [go_sem, sameV]
set_option maxRecDepth 100000 in
theorem con_isV (x v : CV) (hx : x.Ok) (hv : v.Ok) : Con Try.prog 68 [vV x, .fp [vi v.n, .sl 0 2 (v.kids.map vV)] 0] [] fun r _ => r = .sc (.bool (sameV x v)) := by
  have hc := con_same x v hx hv
  rw [vV_eq x, vV_eq v] at *
  refine Con.intro Try.func68 rfl Try.ntmps68 Try.results68 (by kernel_rfl) (by simp) 0 (by simp) ?_
  simp only [go_sem]
  refine CallU.free hc (by simp only [go_sem]) (by simp only [go_sem]) ?_
  rintro r bx rfl
  simp only [go_sem]
set_option maxRecDepth 100000 in
theorem con_indexV (l : List CV) (f : FuncId) (caps : List AV) (p : CV → Bool) (hc : mapTops (viewV []) caps = caps) (hf : ∀ x ∈ l, Con Try.prog f ([vV x] ++ caps) [] fun r _ => r = .sc (.bool (p x))) (hl : l.length ≤ 9223372036854775807) :
    Con Try.prog 67 [.sl 0 2 (l.map vV), .fn f caps] [] fun r _ => r = vi (findI p l) := by
  refine Con.intro Try.func67 rfl Try.ntmps67 Try.results67 (by kernel_rfl) (by simp) 0 (by simp) ?_
  simp only [go_sem]
  refine LoopK.intro (fun i : Nat => ⟨19, [(0, .sl 0 2 (l.map vV)), (1, .fn f caps), (7, .sc (.int .i64 l.length)), (8, .sc (.int .i64 i))], []⟩)
    (fun i => l.length - i) (fun i => i ≤ l.length ∧ ∀ j, j < i → p l[j]! = false) 0 ⟨by omega, fun j hj => by omega⟩ ?_ ?_
  · simp only [go_sem]
  · rintro i ⟨hi, hb⟩
    by_cases h : i < l.length
    · have hg := getvV h
      have hw : IntKind.i64.wrap (i + 1) = i + 1 := wrap_in (by omega) (by omega)
      have hcon := hf l[i]! (mem_bang h)
      rw [vV_eq] at hcon
      simp only [go_sem, h, hg]
      refine CallU.look hcon (by simp only [go_sem]) (by simp only [go_sem, hc]) ?_
      rintro r bx rfl
      cases hp : p l[i]!
      · simp only [go_sem, hw]
        refine roundK.intro (i + 1) ⟨by omega, fun j hj => ?_⟩ (by omega) ?_
        · by_cases hji : j = i
          · subst hji; exact hp
          · exact hb j (by omega)
        · simp only [go_sem]
      · simp only [go_sem]
        rw [findI_stop h hb hp]
    · simp only [go_sem, h]
      rw [findI_none (fun j hj => hb j (by omega))]
set_option maxRecDepth 100000 in
theorem con_shapeIndex (l : List CV) (v : CV) (hl : l.length ≤ 9223372036854775807) (hlo : ∀ x ∈ l, x.Ok) (hv : v.Ok) : Con Try.prog 59 [.sl 0 2 (l.map vV), vV v] [] fun r _ => r = vi (findI (fun x => sameV x v) l) := by
  rw [vV_eq v]
  refine Con.intro Try.func59 rfl Try.ntmps59 Try.results59 (by kernel_rfl) (by simp) 0 (by simp) ?_
  simp only [go_sem]
  refine CallU.look (con_indexV l 68 [.fp [vi v.n, .sl 0 2 (v.kids.map vV)] 0] (fun x => sameV x v) (by simp only [go_sem]) (fun x hx => con_isV x v (hlo x hx) hv) hl) (by simp only [go_sem]) (by simp only [go_sem]) ?_
  rintro r bx rfl
  simp only [go_sem]
set_option maxRecDepth 100000 in
theorem con_number (l : List CV) (v : CV) (hl : l.length ≤ 9223372036854775807) (hlo : ∀ x ∈ l, x.Ok) (hv : v.Ok) : Con Try.prog 61 [.sl 0 2 (l.map vV), vV v] [] fun r _ => r = vi (findI (fun x => sameV x v) l) := by
  have hv2 := vV_eq v
  rw [hv2]
  refine Con.intro Try.func61 rfl Try.ntmps61 Try.results61 (by kernel_rfl) (by simp) 0 (by simp) ?_
  simp only [go_sem]
  refine LoopK.intro (fun i : Nat => ⟨19, [(0, .sl 0 2 (l.map vV)), (3, .pb 0 0), (5, .sc (.int .i64 i))], [[vi v.n, .sl 0 2 (v.kids.map vV)]]⟩)
    (fun i => l.length - i) (fun i => i ≤ l.length ∧ ∀ j, j < i → sameV l[j]! v = false) 0 ⟨by omega, fun j hj => by omega⟩ ?_ ?_
  · simp only [go_sem]
  rintro i ⟨hi, hb⟩
  by_cases h : i < l.length
  · have hg := getvV h
    have hw : IntKind.i64.wrap (i + 1) = i + 1 := wrap_in (by omega) (by omega)
    have hcon := con_rsame l[i]! v (hlo _ (mem_bang h)) hv
    rw [vV_eq l[i]!, hv2] at hcon
    simp only [go_sem, h]
    refine DrawK.walk 5 mixed (by kernel_rfl) ?_
    simp only [go_sem, h, hg]
    refine CallU.free hcon (by simp only [go_sem]) (by simp only [go_sem]) ?_
    rintro r bx rfl
    cases hp : sameV l[i]! v
    · simp only [go_sem, hw]
      refine roundK.intro (i + 1) ⟨by omega, fun j hj => ?_⟩ (by omega) ?_
      · by_cases hji : j = i
        · subst hji; exact hp
        · exact hb j (by omega)
      · simp only [go_sem]
    · simp only [go_sem]
      rw [findI_stop (p := fun x => sameV x v) h hb hp]
  · simp only [go_sem, h]
    rw [findI_none (fun j hj => hb j (by omega))]
end Go.AM

/-! ## SA -/
namespace Go.AM
open Go Go.Proofs Go.RowKit

theorem any_of {α : Type} [Inhabited α] {l : List α} {p : α → Bool} {k : Nat} (h : k < l.length) (hp : p l[k]! = true) : l.any p = true := List.any_eq_true.2 ⟨_, mem_bang h, hp⟩
theorem any_none {α : Type} [Inhabited α] {l : List α} {p : α → Bool} (h : ∀ k, k < l.length → p l[k]! = false) : l.any p = false := by
  rw [List.any_eq_false]
  intro x hx
  obtain ⟨j, hj⟩ := List.getElem?_of_mem hx
  have hjl := (List.getElem?_eq_some_iff.1 hj).1
  have := h j hjl
  have e : l[j]! = x := by simp [hj]
  rw [e] at this; simp [this]

set_option maxRecDepth 100000 in
theorem con_rcheck (s : List (List (Int × Int))) (hl : ∀ l ∈ s, l.length ≤ 281474976710656) (hs : s.length ≤ 9223372036854775806) : Con Try.prog 24 [vy 0 s] [] fun r _ => r = vi (checkS s) := by
  refine Con.intro Try.func24 rfl Try.ntmps24 Try.results24 (by kernel_rfl) (by simp) 0 (by simp) ?_
  by_cases h1 : (s.length : Int) < 1
  · have h1' : s.length < 1 := by omega
    have e : checkS s = 46 := by simp only [checkS, h1', decide_true, Bool.true_or, if_true]
    simp only [go_sem, h1, e]
  by_cases h2 : (128 : Int) < s.length
  · have e : checkS s = 46 := by simp [checkS, show 128 < s.length by omega]
    simp only [go_sem, h1, h2, e]
  simp only [go_sem, h1, h2]
  have hs1 : 1 ≤ s.length := by omega
  have hs2 : s.length ≤ 128 := by omega
  have d1 : decide (s.length < 1) = false := decide_eq_false (by omega)
  have d2 : decide (128 < s.length) = false := decide_eq_false (by omega)
  refine LoopK.intro (fun i : Nat => ⟨64, [(1, .pb 0 0), (2, vi 0), (3, vi s.length), (4, .sc (.int .i64 ((s.take i).map List.length).sum)), (5, vi i)], [[.sl 0 1 (s.map (vl 0))]]⟩)
    (fun i => s.length - i) (fun i => i ≤ s.length ∧ ∀ j, j < i → s[j]!.any (badArc s.length) = false) 0 ⟨by omega, fun j hj => by omega⟩ ?_ ?_
  · simp only [go_sem, List.take_zero, List.map_nil, List.sum_nil]
  rintro i ⟨hi, hb⟩
  by_cases h : i < s.length
  · have hg := getvl h
    have hw : IntKind.i64.wrap (i + 1) = i + 1 := wrap_in (by omega) (by omega)
    have hm : s[i]! ∈ s := by simp [h]
    have hq := sumLen_take (i := i + 1) (by omega) hl
    have hq2 := sumLen_succ h
    have hlm := hl _ hm
    have hw2 : IntKind.i64.wrap (((s.take i).map List.length).sum + s[i]!.length) = ((s.take (i + 1)).map List.length).sum := by
      rw [wrap_in (by omega) (by omega)]; omega
    simp only [go_sem, h, hg, hw2]
    refine LoopK.intro (fun k : Nat => ⟨64, [(1, .pb 0 0), (2, vi 0), (3, vi s.length), (4, .sc (.int .i64 ((s.take (i + 1)).map List.length).sum)), (5, vi i), (6, vi k)], [[.sl 0 1 (s.map (vl 0))]]⟩)
      (fun k => s[i]!.length - k) (fun k => k ≤ s[i]!.length ∧ ∀ j, j < k → badArc s.length s[i]![j]! = false) 0 ⟨by omega, fun j hj => by omega⟩ ?_ ?_
    · simp only [go_sem]
    rintro k ⟨hk, hbk⟩
    by_cases h3 : k < s[i]!.length
    · have hg3 := getva h3
      have hw3 : IntKind.i64.wrap (k + 1) = k + 1 := wrap_in (by omega) (by omega)
      by_cases h4 : s[i]![k]!.2 < 0
      · have hbad : badArc s.length s[i]![k]! = true := by simp only [badArc, h4, decide_true, Bool.true_or]
        have e : checkS s = 46 := by
          have : s.any (fun l => l.any (badArc s.length)) = true := any_of h (any_of h3 hbad)
          simp only [checkS, this, Bool.or_true, Bool.true_or, if_true]
        simp only [go_sem, h, hg, h3, hg3, h4, e]
      by_cases h5 : (s.length : Int) ≤ s[i]![k]!.2
      · have hbad : badArc s.length s[i]![k]! = true := by simp only [badArc, h5, decide_true, Bool.or_true]
        have e : checkS s = 46 := by
          have : s.any (fun l => l.any (badArc s.length)) = true := any_of h (any_of h3 hbad)
          simp only [checkS, this, Bool.or_true, Bool.true_or, if_true]
        simp only [go_sem, h, hg, h3, hg3, h4, h5, e]
      · simp only [go_sem, h, hg, h3, hg3, h4, h5, hw3]
        refine roundK.intro (k + 1) ⟨by omega, fun j hj => ?_⟩ (by omega) ?_
        · by_cases hji : j = k
          · subst hji; simp only [badArc, h4, h5, decide_false, Bool.or_self]
          · exact hbk j (by omega)
        · simp only [go_sem]
    · have hke : k = s[i]!.length := by omega
      subst hke
      simp only [go_sem, h, hg, h3, hw]
      refine roundK.intro (i + 1) ⟨by omega, fun j hj => ?_⟩ (by omega) ?_
      · by_cases hji : j = i
        · subst hji; exact any_none hbk
        · exact hb j (by omega)
      · simp only [go_sem]
  · have hi2 : i = s.length := by omega
    subst hi2
    have hany : s.any (fun l => l.any (badArc s.length)) = false := any_none hb
    by_cases h3 : 256 < (s.map List.length).sum
    · have e : checkS s = 46 := by simp [checkS, h3]
      simp only [go_sem, h, List.take_length, h3, e]
    · have e : checkS s = 0 := by
        simp only [checkS, d1, d2, hany, h3, decide_false, Bool.or_self, if_false, Bool.false_eq_true]
      simp only [go_sem, h, List.take_length, h3, e]

set_option maxRecDepth 100000 in
theorem con_rboth (a b : Sys) (ha : ∀ l ∈ a, l.length ≤ 281474976710656) (ha2 : a.length ≤ 9223372036854775806) (hb : ∀ l ∈ b, l.length ≤ 281474976710656) (hb2 : b.length ≤ 9223372036854775806) :
    Con Try.prog 48 [vy 0 a, vy 0 b] [] fun r _ => r = vi (bothS a b) := by
  refine Con.intro Try.func48 rfl Try.ntmps48 Try.results48 (by kernel_rfl) (by simp) 0 (by simp) ?_
  simp only [go_sem]
  refine CallU.free (con_rcheck a ha ha2) (by simp only [go_sem]) (by simp only [go_sem]) ?_
  rintro r bx rfl
  by_cases h : checkS a = 0
  · have e : bothS a b = checkS b := by simp [bothS, h]
    simp only [go_sem, h]
    refine CallU.free (con_rcheck b hb hb2) (by simp only [go_sem]) (by simp only [go_sem]) ?_
    rintro r bx rfl
    simp only [go_sem, e]
  · have e : bothS a b = checkS a := by simp [bothS, h]
    have hne : (checkS a != 0) = true := by simp [h]
    simp only [go_sem, hne, e]

set_option maxRecDepth 100000 in
theorem con_ints (a b : List Int) (ha : a.length ≤ 9223372036854775806) : Con Try.prog 51 [vs 0 a, vs 0 b] [] fun r _ => r = .sc (.bool (decide (a = b))) := by
  refine Con.intro Try.func51 rfl Try.ntmps51 Try.results51 (by kernel_rfl) (by simp) 0 (by simp) ?_
  by_cases h0 : a.length = b.length
  case neg =>
    have e : decide (a = b) = false := decide_eq_false fun e => h0 (by rw [e])
    simp only [go_sem, h0, e]
  simp only [go_sem, h0]
  refine LoopK.intro (fun i : Nat => ⟨26, [(0, vs 0 a), (1, vs 0 b), (4, vb false), (5, vi i)], []⟩)
    (fun i => a.length - i) (fun i => i ≤ a.length ∧ ∀ j, j < i → a[j]! = b[j]!) 0 ⟨by omega, fun j hj => by omega⟩ ?_ ?_
  · simp only [go_sem]
  rintro i ⟨hi, he⟩
  by_cases h : i < a.length
  · have hb : i < b.length := by omega
    have g1 := getv h
    have g2 := getv hb
    have hw : IntKind.i64.wrap (i + 1) = i + 1 := wrap_in (by omega) (by omega)
    simp only [go_sem, h]
    refine DrawK.walk 9 mixed (by kernel_rfl) ?_
    by_cases h2 : a[i]! = b[i]!
    · have h3 : (a[i]! != b[i]!) = false := by simp only [h2, bne_self_eq_false]
      simp only [go_sem, h, hb, g1, g2, h3, hw]
      refine roundK.intro (i + 1) ⟨by omega, fun j hj => ?_⟩ (by omega) ?_
      · by_cases hji : j = i
        · subst hji; exact h2
        · exact he j (by omega)
      · simp only [go_sem]
    · have e : decide (a = b) = false := decide_eq_false fun e => h2 (by rw [e])
      have h3 : (a[i]! != b[i]!) = true := bne_iff_ne.2 h2
      simp only [go_sem, h, hb, g1, g2, h3, e]
  · have hab : a = b := by
      apply List.ext_getElem
      · omega
      · intro j h1 h2
        have := he j (by omega)
        rwa [getElem!_pos a j h1, getElem!_pos b j h2] at this
    have e : decide (a = b) = true := decide_eq_true hab
    simp only [go_sem, h, e]
end Go.AM

/-! ## SB -/
namespace Go.AM
open Go Go.Proofs Go.RowKit

@[go_sem] theorem flat_47 : flatF Try.prog 47 = some [(0, true), (1, true)] := by kernel_rfl

theorem ext_bang {α : Type} [Inhabited α] {a b : List α} (hl : a.length = b.length) (h : ∀ j, j < a.length → a[j]! = b[j]!) : a = b := by
  apply List.ext_getElem hl
  intro j h1 h2
  have := h j h1
  rwa [getElem!_pos a j h1, getElem!_pos b j h2] at this

set_option maxRecDepth 100000 in
theorem con_samearcs (a b : List (Int × Int)) (ha : a.length ≤ 9223372036854775806) : Con Try.prog 44 [vl 0 a, vl 0 b] [] fun r _ => r = .sc (.bool (decide (a = b))) := by
  refine Con.intro Try.func44 rfl Try.ntmps44 Try.results44 (by kernel_rfl) (by simp) 0 (by simp) ?_
  by_cases h0 : a.length = b.length
  case neg =>
    have e : decide (a = b) = false := decide_eq_false fun e => h0 (by rw [e])
    simp only [go_sem, h0, e]
  simp only [go_sem, h0]
  refine LoopK.intro (fun i : Nat => ⟨26, [(0, vl 0 a), (1, vl 0 b), (4, vb false), (5, vi i)], []⟩)
    (fun i => a.length - i) (fun i => i ≤ a.length ∧ ∀ j, j < i → a[j]! = b[j]!) 0 ⟨by omega, fun j hj => by omega⟩ ?_ ?_
  · simp only [go_sem]
  rintro i ⟨hi, he⟩
  by_cases h : i < a.length
  · have hb : i < b.length := by omega
    have g1 := getva h
    have g2 := getva hb
    have hw : IntKind.i64.wrap (i + 1) = i + 1 := wrap_in (by omega) (by omega)
    simp only [go_sem, h]
    refine DrawK.walk 9 mixed (by kernel_rfl) ?_
    by_cases h2 : a[i]! = b[i]!
    · have e1 : (a[i]!.1 == b[i]!.1) = true := by rw [h2]; exact beq_self_eq_true _
      have e2 : (a[i]!.2 == b[i]!.2) = true := by rw [h2]; exact beq_self_eq_true _
      simp only [go_sem, h, hb, g1, g2, hw, e1, e2, Bool.and_true, Bool.not_true]
      refine roundK.intro (i + 1) ⟨by omega, fun j hj => ?_⟩ (by omega) ?_
      · by_cases hji : j = i
        · subst hji; exact h2
        · exact he j (by omega)
      · simp only [go_sem]
    · have e : decide (a = b) = false := decide_eq_false fun e => h2 (by rw [e])
      have e3 : ((a[i]!.1 == b[i]!.1) && (a[i]!.2 == b[i]!.2)) = false := by
        rw [Bool.and_eq_false_iff]
        by_cases hx : a[i]!.1 = b[i]!.1
        · exact .inr (beq_eq_false_iff_ne.2 fun hy => h2 (Prod.ext hx hy))
        · exact .inl (beq_eq_false_iff_ne.2 hx)
      simp only [go_sem, h, hb, g1, g2, Bool.and_true, e3, Bool.not_false, e]
  · have hab : a = b := ext_bang h0 (fun j hj => he j (by omega))
    have e : decide (a = b) = true := decide_eq_true hab
    simp only [go_sem, h, e]

set_option maxRecDepth 100000 in
theorem con_samesys (a b : Sys) (ha : a.length ≤ 9223372036854775806) (hal : ∀ l ∈ a, l.length ≤ 9223372036854775806) : Con Try.prog 22 [vy 0 a, vy 0 b] [] fun r _ => r = .sc (.bool (decide (a = b))) := by
  refine Con.intro Try.func22 rfl Try.ntmps22 Try.results22 (by kernel_rfl) (by simp) 0 (by simp) ?_
  by_cases h0 : a.length = b.length
  case neg =>
    have e : decide (a = b) = false := decide_eq_false fun e => h0 (by rw [e])
    simp only [go_sem, h0, e]
  simp only [go_sem, h0]
  refine LoopK.intro (fun i : Nat => ⟨32, [(2, .pb 0 0), (3, .pb 1 0), (4, vb false), (5, vi i)], [[.sl 0 1 (a.map (vl 0))], [.sl 0 1 (b.map (vl 0))]]⟩)
    (fun i => a.length - i) (fun i => i ≤ a.length ∧ ∀ j, j < i → a[j]! = b[j]!) 0 ⟨by omega, fun j hj => by omega⟩ ?_ ?_
  · simp only [go_sem]
  rintro i ⟨hi, he⟩
  by_cases h : i < a.length
  · have hb : i < b.length := by omega
    have g1 := getvl h
    have g2 := getvl hb
    have hw : IntKind.i64.wrap (i + 1) = i + 1 := wrap_in (by omega) (by omega)
    simp only [go_sem, h]
    refine DrawK.walk 10 mixed (by kernel_rfl) ?_
    simp only [go_sem, h, hb, g1, g2]
    refine CallU.free (con_samearcs a[i]! b[i]! (hal _ (mem_bang h))) (by simp only [go_sem]) (by simp only [go_sem]) ?_
    rintro r bx rfl
    by_cases h2 : a[i]! = b[i]!
    · have h3 : decide (a[i]! = b[i]!) = true := decide_eq_true h2
      simp only [go_sem, h3, hw]
      refine roundK.intro (i + 1) ⟨by omega, fun j hj => ?_⟩ (by omega) ?_
      · by_cases hji : j = i
        · subst hji; exact h2
        · exact he j (by omega)
      · simp only [go_sem]
    · have e : decide (a = b) = false := decide_eq_false fun e => h2 (by rw [e])
      have h3 : decide (a[i]! = b[i]!) = false := decide_eq_false h2
      simp only [go_sem, h3, e]
  · have hab : a = b := ext_bang h0 (fun j hj => he j (by omega))
    have e : decide (a = b) = true := decide_eq_true hab
    simp only [go_sem, h, e]

set_option maxRecDepth 100000 in
theorem con_samerel (a b : Rel) (ha : a.length ≤ 9223372036854775806) (hal : ∀ l ∈ a, l.length ≤ 9223372036854775806) : Con Try.prog 27 [vr 0 a, vr 0 b] [] fun r _ => r = .sc (.bool (decide (a = b))) := by
  refine Con.intro Try.func27 rfl Try.ntmps27 Try.results27 (by kernel_rfl) (by simp) 0 (by simp) ?_
  by_cases h0 : a.length = b.length
  case neg =>
    have e : decide (a = b) = false := decide_eq_false fun e => h0 (by rw [e])
    simp only [go_sem, h0, e]
  simp only [go_sem, h0]
  refine LoopK.intro (fun i : Nat => ⟨53, [(0, vr 0 a), (1, vr 0 b), (4, vb false), (5, vi i)], []⟩)
    (fun i => a.length - i) (fun i => i ≤ a.length ∧ ∀ j, j < i → a[j]! = b[j]!) 0 ⟨by omega, fun j hj => by omega⟩ ?_ ?_
  · simp only [go_sem]
  rintro i ⟨hi, he⟩
  by_cases h : i < a.length
  · have hb : i < b.length := by omega
    have g1 := getvr h
    have g2 := getvr hb
    have hw : IntKind.i64.wrap (i + 1) = i + 1 := wrap_in (by omega) (by omega)
    have hli := hal _ (mem_bang h)
    simp only [go_sem, h]
    refine DrawK.walk 11 mixed (by kernel_rfl) ?_
    by_cases h1 : a[i]!.length = b[i]!.length
    case neg =>
      have e : decide (a = b) = false := decide_eq_false fun e => h1 (by rw [e])
      simp only [go_sem, h, hb, g1, g2, h1, e]
    simp only [go_sem, h, hb, g1, g2, h1]
    refine LoopK.intro (fun k : Nat => ⟨53, [(0, vr 0 a), (1, vr 0 b), (4, vb false), (5, vi i), (6, vi k)], []⟩)
      (fun k => a[i]!.length - k) (fun k => k ≤ a[i]!.length ∧ ∀ j, j < k → a[i]![j]! = b[i]![j]!) 0 ⟨by omega, fun j hj => by omega⟩ ?_ ?_
    · simp only [go_sem]
    rintro k ⟨hk, hek⟩
    by_cases h3 : k < a[i]!.length
    · have hb3 : k < b[i]!.length := by omega
      have g3 := getvb h3
      have g4 := getvb hb3
      have hw3 : IntKind.i64.wrap (k + 1) = k + 1 := wrap_in (by omega) (by omega)
      simp only [go_sem, h, g1, h3]
      refine DrawK.walk 15 mixed (by kernel_rfl) ?_
      by_cases h4 : a[i]![k]! = b[i]![k]!
      · have h5 : (a[i]![k]! == b[i]![k]!) = true := beq_iff_eq.2 h4
        simp only [go_sem, h, hb, g1, g2, h3, hb3, g3, g4, h5, hw3, Bool.not_true]
        refine roundK.intro (k + 1) ⟨by omega, fun j hj => ?_⟩ (by omega) ?_
        · by_cases hji : j = k
          · subst hji; exact h4
          · exact hek j (by omega)
        · simp only [go_sem]
      · have e : decide (a = b) = false := decide_eq_false fun e => h4 (by rw [e])
        have h5 : (a[i]![k]! == b[i]![k]!) = false := beq_eq_false_iff_ne.2 h4
        simp only [go_sem, h, hb, g1, g2, h3, hb3, g3, g4, h5, e, Bool.not_false]
    · simp only [go_sem, h, g1, h3, hw]
      refine roundK.intro (i + 1) ⟨by omega, fun j hj => ?_⟩ (by omega) ?_
      · by_cases hji : j = i
        · subst hji; exact ext_bang h1 (fun m hm => hek m (by omega))
        · exact he j (by omega)
      · simp only [go_sem]
  · have hab : a = b := ext_bang h0 (fun j hj => he j (by omega))
    have e : decide (a = b) = true := decide_eq_true hab
    simp only [go_sem, h, e]
end Go.AM

/-! ## SC -/
namespace Go.AM
open Go Go.Proofs Go.RowKit

/-- variables that hold arcs -/
def Qx (L : List (Int × Int)) : List (List AV) := L.map fun p => [vi p.1, vi p.2]
@[go_sem] theorem Qx_len {L : List (Int × Int)} : (Qx L).length = L.length := by simp [Qx]
@[go_sem] theorem freeB_Qx {d : Nat} {L : List (Int × Int)} : freeB d (Qx L) = true := Ax_free _
@[go_sem] theorem leB_Qx {L : List (Int × Int)} : leB (Qx L) (Qx L) = True := eq_true (leB_refl _)
@[go_sem] theorem Qx_set {L : List (Int × Int)} {z : List AV} {a b : Int} : (Qx L ++ [z]).set L.length [.sc (.int .i64 a), .sc (.int .i64 b)] = Qx (L ++ [(a, b)]) := by
  rw [List.set_append_right _ _ (by rw [Qx_len]; omega), Qx_len, Nat.sub_self]
  simp [Qx, vi]
@[go_sem] theorem Qx_new {L : List (Int × Int)} {z : List AV} : (Qx L ++ [z])[L.length]? = some z := by
  rw [List.getElem?_append_right (by rw [Qx_len]; omega), Qx_len, Nat.sub_self]; rfl
theorem Qx_at {L : List (Int × Int)} {j : Nat} {p : Int × Int} (h : L[j]? = some p) : (Qx L)[j]? = some [.sc (.int .i64 p.1), .sc (.int .i64 p.2)] := by
  unfold Qx; rw [List.getElem?_map, h]; rfl

theorem take_one {α : Type} [Inhabited α] {l : List α} {k : Nat} (h : k < l.length) : l.take (k + 1) = l.take k ++ [l[k]!] := by
  rw [List.take_add_one, List.getElem?_eq_getElem h, getElem!_pos l k h]; rfl

set_option maxRecDepth 100000 in
set_option maxHeartbeats 1000000 in
theorem con_can (r : Rel) (a b : Sys) (x y : Nat) (hr : Sized r a.length b.length) (ha : Closed1 a) (hb : Closed1 b) (hx : x < a.length) (hy : y < b.length) :
    Con Try.prog 49 [vy 0 a, vy 0 b, vr 0 r, vi x, vi y] [] fun u _ => u = .sc (.bool (matchesF r a b x y)) := by
  refine Con.intro Try.func49 rfl Try.ntmps49 Try.results49 (by kernel_rfl) (by simp) 0 (by simp) ?_
  have g1 := getvl hx
  have g2 := getvl hy
  have hax := ha.2 _ (mem_bang hx)
  have hby := hb.2 _ (mem_bang hy)
  simp only [go_sem]
  refine LoopK.intro (fun p : Nat × List (Int × Int) => ⟨73, [(2, vr 0 r), (3, vi x), (4, vi y), (5, .pb 0 0), (6, .pb 1 0), (10, vb false), (11, vi p.1)], [.sl 0 1 (a.map (vl 0))] :: [.sl 0 1 (b.map (vl 0))] :: Qx p.2⟩)
    (fun p => a[x]!.length - p.1) (fun p => p.1 ≤ a[x]!.length ∧ ∀ j, j < p.1 → (b[y]!.any fun q => q.1 == a[x]![j]!.1 && within r a[x]![j]! q) = true) (0, []) ⟨by omega, fun j hj => by omega⟩ ?_ ?_
  · simp only [go_sem, Qx, List.map_nil]
  rintro ⟨i, L0⟩ ⟨hi, hb2⟩
  simp only at hi hb2
  by_cases h : i < a[x]!.length
  · have hg := getva h
    have hw : IntKind.i64.wrap (i + 1) = i + 1 := wrap_in (by omega) (by omega)
    have hp := hax.2 _ (mem_bang h)
    generalize hpp : a[x]![i]! = p at hg hp
    obtain ⟨pl, pt⟩ := p
    obtain ⟨m, rfl⟩ := Int.eq_ofNat_of_zero_le hp.1
    simp only at hg hp
    simp only [go_sem, hx, g1, h, hg]
    refine LoopK.intro (fun t : Nat × List (Int × Int) => ⟨73, [(2, vr 0 r), (3, vi x), (4, vi y), (5, .pb 0 0), (6, .pb 1 0), (10, vb false), (11, vi i), (12, .pb (L0.length + 1 + 1) 0), (13, vb ((b[y]!.take t.1).any fun q => q.1 == pl && within r (pl, (m : Int)) q)), (14, vi t.1)], [.sl 0 1 (a.map (vl 0))] :: [.sl 0 1 (b.map (vl 0))] :: Qx t.2⟩)
      (fun t => b[y]!.length - t.1) (fun t => t.1 ≤ b[y]!.length ∧ t.2[L0.length]? = some (pl, (m : Int))) (0, L0 ++ [(pl, (m : Int))]) ⟨by omega, by simp⟩ ?_ ?_
    · simp only [go_sem, List.take_zero, List.any_nil]
    rintro ⟨k, L⟩ ⟨hk, hL⟩
    simp only at hk hL
    by_cases h3 : k < b[y]!.length
    · have hg3 := getva h3
      have hw3 : IntKind.i64.wrap (k + 1) = k + 1 := wrap_in (by omega) (by omega)
      have hq := hby.2 _ (mem_bang h3)
      have hsn : ((b[y]!.take (k + 1)).any fun q => q.1 == pl && within r (pl, (m : Int)) q) = (((b[y]!.take k).any fun q => q.1 == pl && within r (pl, (m : Int)) q) || (b[y]![k]!.1 == pl && within r (pl, (m : Int)) b[y]![k]!)) := by
        rw [take_one h3, List.any_append]; simp
      generalize hqq : b[y]![k]! = q at hg3 hq hsn
      obtain ⟨ql, qt⟩ := q
      obtain ⟨n, rfl⟩ := Int.eq_ofNat_of_zero_le hq.1
      simp only at hg3 hq hsn
      have hLl : L0.length < L.length := (List.getElem?_eq_some_iff.1 hL).1
      have hL2 : (L ++ [(ql, (n : Int))])[L0.length]? = some (pl, (m : Int)) := by rw [List.getElem?_append_left hLl]; exact hL
      have f2 := Qx_at hL2
      simp only at f2
      have f3 : (Qx (L ++ [(ql, (n : Int))]))[L.length]? = some [.sc (.int .i64 ql), .sc (.int .i64 n)] := Qx_at (L := L ++ [(ql, (n : Int))]) (p := (ql, (n : Int))) (by rw [List.getElem?_append_right (Nat.le_refl _), Nat.sub_self]; rfl)
      simp only [go_sem, hy, g2, h3, hg3]
      refine DrawK.walk 19 mixed (by kernel_rfl) ?_
      cases hc : (b[y]!.take k).any fun q => q.1 == pl && within r (pl, (m : Int)) q
      · by_cases hl : ql = pl
        · have hl' : (ql == pl) = true := beq_iff_eq.2 hl
          have hmr : m < r.length := by rw [hr.1]; omega
          have hrow := hr.2 r[m]! (mem_bang hmr)
          have hnr : n < r[m]!.length := by rw [hrow]; omega
          have g5 := getvr hmr
          have g6 := getvb hnr
          have e3 : within r (pl, (m : Int)) (ql, (n : Int)) = r[m]![n]! := rfl
          rw [hl', e3, hc] at hsn
          simp only [go_sem, f2, f3, hl', hmr, hnr, g5, g6, hw3]
          refine roundK.intro (k + 1, L ++ [(ql, (n : Int))]) ⟨by show k + 1 ≤ b[y]!.length; omega, hL2⟩ (by show b[y]!.length - (k + 1) < b[y]!.length - k; omega) ?_
          simp only [go_sem, hsn, Bool.true_and, Bool.false_or]
        · have hl' : (ql == pl) = false := beq_eq_false_iff_ne.2 hl
          rw [hl', hc] at hsn
          simp only [go_sem, f2, f3, hl', hw3]
          refine roundK.intro (k + 1, L ++ [(ql, (n : Int))]) ⟨by show k + 1 ≤ b[y]!.length; omega, hL2⟩ (by show b[y]!.length - (k + 1) < b[y]!.length - k; omega) ?_
          simp only [go_sem, hsn, Bool.false_and, Bool.false_or]
      · rw [hc] at hsn
        simp only [go_sem, hw3]
        refine roundK.intro (k + 1, L ++ [(ql, (n : Int))]) ⟨by show k + 1 ≤ b[y]!.length; omega, hL2⟩ (by show b[y]!.length - (k + 1) < b[y]!.length - k; omega) ?_
        simp only [go_sem, hsn, Bool.true_or]
    · have hke : k = b[y]!.length := by omega
      subst hke
      cases hu : b[y]!.any fun q => q.1 == pl && within r (pl, (m : Int)) q
      · have e : matchesF r a b x y = false := by
          unfold matchesF
          rw [List.all_eq_false]
          exact ⟨_, mem_bang h, by rw [hpp, hu]; exact Bool.false_ne_true⟩
        simp only [go_sem, hy, g2, h3, List.take_length, hu, e]
      · simp only [go_sem, hy, g2, h3, List.take_length, hu, hw]
        refine roundK.intro (i + 1, L) ⟨by show i + 1 ≤ a[x]!.length; omega, fun j hj => ?_⟩ (by show a[x]!.length - (i + 1) < a[x]!.length - i; omega) ?_
        · by_cases hji : j = i
          · subst hji; rw [hpp]; exact hu
          · exact hb2 j (by have : j < i + 1 := hj; omega)
        · simp only [go_sem]
  · have e : matchesF r a b x y = true := by
      unfold matchesF
      rw [List.all_eq_true]
      intro p hp
      obtain ⟨j, hj⟩ := List.getElem?_of_mem hp
      have hjl := (List.getElem?_eq_some_iff.1 hj).1
      have := hb2 j (by omega)
      have e : a[x]![j]! = p := bang_of hj
      rw [e] at this; exact this
    simp only [go_sem, hx, g1, h, e]
end Go.AM

/-! ## SD -/
namespace Go.AM
open Go Go.Proofs Go.RowKit

@[go_sem] theorem rowsB_retagss {t s j s' j' : Nat} {M : Rel} (hs : (t = s) = False) (hs' : (t = s') = False) : (rowsB t M).map (retagRow (subT s j) (subT s' j')) = rowsB t M := rowsB_map fun i r => by simp only [retagRow, sub_sub, hs, hs', false_and, if_false]

@[go_sem] theorem rowsB_storess {t s j es i o : Nat} {ys : List AV} {M : Rel} (hs : (t = s) = False) : (rowsB t M).map (storeRow (subT s j) es i o ys) = rowsB t M := rowsB_map fun i r => by simp only [storeRow, sub_sub, hs, false_and, if_false]

/-- a row that is being filled -/
def rowK (m k : Nat) : List Bool := List.replicate k true ++ List.replicate (m - k) false
theorem rowK_len {m k : Nat} (h : k ≤ m) : (rowK m k).length = m := by simp [rowK]; omega
theorem rowK_set {m k : Nat} (h : k < m) : (rowK m k).set k true = rowK m (k + 1) := by
  unfold rowK
  rw [List.set_append_right _ _ (by simp), List.length_replicate, Nat.sub_self]
  obtain ⟨n, hn⟩ : ∃ n, m - k = n + 1 := ⟨m - k - 1, by omega⟩
  rw [hn, show m - (k + 1) = n by omega, List.replicate_succ, List.set_cons_zero, List.replicate_succ']
  simp
theorem rowK_full {m : Nat} : rowK m m = List.replicate m true := by simp [rowK]
theorem rowK_zero {m : Nat} : (rowK m 0).map vb = List.replicate m (.sc (.bool false)) := by simp [rowK, vb]
theorem full_snoc {k m : Nat} : fullR (k + 1) m = fullR k m ++ [List.replicate m true] := by simp only [fullR, List.replicate_succ']

set_option maxRecDepth 100000 in
set_option maxHeartbeats 2000000 in
theorem con_rgreatest (a b : Sys) (hab : bothS a b = 0) (ha : ∀ l ∈ a, l.length ≤ 281474976710656) (hb : ∀ l ∈ b, l.length ≤ 281474976710656) :
    Con Try.prog 26 [vy 0 a, vy 0 b] [] fun r _ => ∃ R, r = .tup [vtb 2 R, vi 0] ∧ IsGreatest a b R := by
  have hca : checkS a = 0 := by unfold bothS at hab; split at hab <;> assumption
  have hcb : checkS b = 0 := by unfold bothS at hab; rw [if_pos hca] at hab; exact hab
  obtain ⟨a1, a2, a3⟩ := checkS_ok hca
  obtain ⟨b1, b2, b3⟩ := checkS_ok hcb
  refine Con.intro Try.func26 rfl Try.ntmps26 Try.results26 (by kernel_rfl) (by simp) 0 (by simp) ?_
  simp only [go_sem]
  refine CallU.free (con_rboth a b ha (by omega) hb (by omega)) (by simp only [go_sem]) (by simp only [go_sem]) ?_
  rintro r bx rfl
  simp only [go_sem, hab]
  refine LoopK.intro (fun k : Nat => ⟨83, [(2, .pb 0 0), (3, .pb 1 0), (4, .nil), (5, vi 0), (7, vtb 512 (fullR k b.length)), (8, vi k)], [[.sl 0 1 (a.map (vl 0))], [.sl 0 1 (b.map (vl 0))]]⟩)
    (fun k => a.length - k) (fun k => k ≤ a.length) 0 (by omega) ?_ ?_
  · simp only [go_sem, fullR, List.replicate_zero]
  intro k hk0
  by_cases hk : k < a.length
  · have hw : IntKind.i64.wrap (k + 1) = k + 1 := wrap_in (by omega) (by omega)
    simp only [go_sem, hk]
    refine ⟨Nat.le_refl _, by omega, by omega, ?_⟩
    refine LoopK.retag 1984 (subT 2 0) (by omega) (by have := sub_big 2 0; omega) (fun j : Nat => ⟨83, [(2, .pb 0 0), (3, .pb 1 0), (4, .nil), (5, vi 0), (7, vtb 512 (fullR k b.length)), (8, vi k), (9, .sl (subT 2 0) 1 ((rowK b.length j).map vb)), (10, vi j)], [[.sl 0 1 (a.map (vl 0))], [.sl 0 1 (b.map (vl 0))]]⟩)
      (fun j => b.length - j) (fun j => j ≤ b.length) 0 (by omega) ?_ ?_
    · simp only [go_sem, rowK_zero]
    intro j hj0
    have hrl := rowK_len hj0
    by_cases hj : j < b.length
    · have hw2 : IntKind.i64.wrap (j + 1) = j + 1 := wrap_in (by omega) (by omega)
      have hset := modify_vb' (l := rowK b.length j) (i := j) (x := true)
      rw [rowK_set hj] at hset
      simp only [go_sem, hj, hrl, hw2, hset]
      refine roundK.intro (j + 1) (by show j + 1 ≤ b.length; omega) (by show b.length - (j + 1) < b.length - j; omega) ?_
      simp only [go_sem]
    · have hje : j = b.length := by omega
      subst hje
      simp only [go_sem, hj, hw, rowK_full, List.length_replicate]
      refine ⟨by simp only [roomFor, fullR, List.length_replicate]; omega, roundK.intro (k + 1) (by show k + 1 ≤ a.length; omega) (by show a.length - (k + 1) < a.length - k; omega) ?_⟩
      simp only [go_sem, full_snoc]
  · have hkn : k = a.length := by omega
    subst hkn
    simp only [go_sem, hk]
    have hfull := full_sized a.length b.length
    have ca : Closed1 a := ⟨a2, fun l hl => ⟨ha l hl, a3 l hl⟩⟩
    have cb : Closed1 b := ⟨b2, fun l hl => ⟨hb l hl, b3 l hl⟩⟩
    refine LoopK.intro (fun p : Rel × Bool => ⟨83, [(2, .pb 0 0), (3, .pb 1 0), (4, .nil), (5, vi 0), (7, vtb 512 p.1), (11, vb p.2)], [[.sl 0 1 (a.map (vl 0))], [.sl 0 1 (b.map (vl 0))]]⟩)
      (fun p => 2 * tally p.1 + if p.2 = true then 1 else 0) (fun p => Red a b (fullR a.length b.length) p.1 ∧ (p.2 = false → Fixed a b p.1)) (fullR a.length b.length, true) ⟨.refl _, fun h => by cases h⟩ ?_ ?_
    · simp only [go_sem]
    rintro ⟨R, c0⟩ ⟨hR, hfix⟩
    simp only at hR hfix
    have hs : Sized R a.length b.length := hR.sized rfl hfull
    cases c0
    · simp only [go_sem]
      exact ⟨R, rfl, hs, hR, hfix rfl⟩
    simp only [go_sem]
    refine LoopK.intro (fun p : Nat × Rel × Bool => ⟨83, [(2, .pb 0 0), (3, .pb 1 0), (4, .nil), (5, vi 0), (7, vtb 512 p.2.1), (11, vb p.2.2), (12, vi p.1)], [[.sl 0 1 (a.map (vl 0))], [.sl 0 1 (b.map (vl 0))]]⟩)
      (fun p => a.length - p.1) (fun p => p.1 ≤ a.length ∧ Pass a b R p.1 0 p.2.1 p.2.2) (0, R, false) ⟨by simp, ⟨.refl _, fun _ => ⟨rfl, fun i j h => by omega, fun j h => by omega⟩, fun h => by cases h⟩⟩ ?_ ?_
    · simp only [go_sem]
    rintro ⟨x, r1, c1⟩ ⟨h1, h2⟩
    simp only at h1 h2
    have hs1 : Sized r1 a.length b.length := h2.red.sized rfl hs
    have hl1 : r1.length = a.length := hs1.1
    by_cases hx : x < a.length
    case neg =>
      have hxe : x = a.length := by omega
      subst hxe
      simp only [go_sem, hl1, hx]
      refine roundK.intro (r1, c1) ⟨hR.trans h2.red, fun hc => ?_⟩ ?_ ?_
      · obtain ⟨e, h3, _⟩ := h2.same hc
        rw [e]; exact fun i j hi hj hr => h3 i j hi hj hr
      · show 2 * tally r1 + (if c1 = true then 1 else 0) < 2 * tally R + 1
        cases c1
        · rw [(h2.same rfl).1]; simp
        · have := h2.less rfl
          simp only [if_true]; omega
      · simp only [go_sem]
    have hwx : IntKind.i64.wrap (x + 1) = x + 1 := wrap_in (by omega) (by omega)
    have hx1 : x < r1.length := by omega
    simp only [go_sem, hl1, hx]
    refine LoopK.intro (fun p : Nat × Rel × Bool => ⟨83, [(2, .pb 0 0), (3, .pb 1 0), (4, .nil), (5, vi 0), (7, vtb 512 p.2.1), (11, vb p.2.2), (12, vi x), (13, vi p.1)], [[.sl 0 1 (a.map (vl 0))], [.sl 0 1 (b.map (vl 0))]]⟩)
      (fun p => b.length - p.1) (fun p => p.1 ≤ b.length ∧ Pass a b R x p.1 p.2.1 p.2.2) (0, r1, c1) ⟨by simp, h2⟩ ?_ ?_
    · simp only [go_sem]
    rintro ⟨y, r2, c2⟩ ⟨k1, k2⟩
    simp only at k1 k2
    have hs2 : Sized r2 a.length b.length := k2.red.sized rfl hs
    have hl2 : r2.length = a.length := hs2.1
    have hx2 : x < r2.length := by omega
    have hrow2 : r2[x]!.length = b.length := hs2.2 _ (mem_bang hx2)
    have hg := gettb (t := 512) hx2
    by_cases hy : y < b.length
    case neg =>
      simp only [go_sem, hx, hl2, hg, hrow2, hy, hwx]
      refine roundK.intro (x + 1, r2, c2) ⟨by show x + 1 ≤ a.length; omega, k2.row (by omega)⟩ (by show a.length - (x + 1) < a.length - x; omega) ?_
      simp only [go_sem]
    have hy2 : y < r2[x]!.length := by omega
    have hwy : IntKind.i64.wrap (y + 1) = y + 1 := wrap_in (by omega) (by omega)
    have hgy := getvb hy2
    cases hin : r2[x]![y]!
    · simp only [go_sem, hx, hl2, hg, hrow2, hy, hgy, hin, hwy]
      refine roundK.intro (y + 1, r2, c2) ⟨by show y + 1 ≤ b.length; omega, k2.skip (by rw [hin]; intro h; cases h)⟩ (by show b.length - (y + 1) < b.length - y; omega) ?_
      simp only [go_sem]
    simp only [go_sem, hx, hl2, hg, hrow2, hy, hgy, hin]
    refine CallU.flat (con_can r2 a b x y hs2 ca cb hx hy) (by simp only [go_sem]) (by simp only [go_sem]) ?_
    rintro u bx rfl
    cases hm : matchesF r2 a b x y
    · simp only [go_sem, hx, hl2, hg, hrow2, hy, hwy]
      refine roundK.intro (y + 1, cutR r2 x y, true) ⟨by show y + 1 ≤ b.length; omega, k2.cut hx hy hx2 hy2 hin hm⟩ (by show b.length - (y + 1) < b.length - y; omega) ?_
      have e2 : r2.set x (r2[x]!.set y false) = cutR r2 x y := rfl
      simp only [go_sem, e2]
    · simp only [go_sem, hwy]
      refine roundK.intro (y + 1, r2, c2) ⟨by show y + 1 ≤ b.length; omega, k2.skip (fun _ => hm)⟩ (by show b.length - (y + 1) < b.length - y; omega) ?_
      simp only [go_sem]
end Go.AM

/-! ## WK -/
namespace Go.AM
open Go Go.Proofs Go.RowKit

/-- a function value that tells by p, one call at a time -/
def TellsB (f : FuncId) (caps : List AV) (l : Rel) (p : List Bool → Bool) : Prop := ∀ x ∈ l, Con Try.prog f ([vbl 0 x] ++ caps) [] fun r _ => r = .sc (.bool (p x))

set_option maxRecDepth 100000 in
theorem con_indexRow (l : Rel) (f : FuncId) (caps : List AV) (p : List Bool → Bool) (hc : mapTops (viewV []) caps = caps) (hf : TellsB f caps l p) (hl : l.length ≤ 9223372036854775806) : Con Try.prog 57 [vr 0 l, .fn f caps] [] fun r _ => r = vi (findI p l) := by
  refine Con.intro Try.func57 rfl Try.ntmps57 Try.results57 (by kernel_rfl) (by simp) 0 (by simp) ?_
  simp only [go_sem]
  refine LoopK.intro (fun i : Nat => ⟨19, [(0, .sl 0 1 (l.map (vbl 0))), (1, .fn f caps), (7, .sc (.int .i64 l.length)), (8, .sc (.int .i64 i))], []⟩)
    (fun i => l.length - i) (fun i => i ≤ l.length ∧ ∀ j, j < i → p l[j]! = false) 0 ⟨by omega, fun j hj => by omega⟩ ?_ ?_
  · simp only [go_sem]
  · rintro i ⟨hi, hb⟩
    by_cases h : i < l.length
    · have hg := getvr h
      have hw : IntKind.i64.wrap (i + 1) = i + 1 := wrap_in (by omega) (by omega)
      simp only [go_sem, h, hg]
      refine CallU.look (hf l[i]! (by simp [h])) (by simp only [go_sem]) (by simp only [go_sem, hc]) ?_
      rintro r bx rfl
      cases hp : p l[i]!
      · simp only [go_sem, hw]
        refine roundK.intro (i + 1) ⟨by omega, fun j hj => ?_⟩ (by omega) ?_
        · by_cases hji : j = i
          · subst hji; exact hp
          · exact hb j (by omega)
        · simp only [go_sem]
      · simp only [go_sem]
        rw [findI_stop h hb hp]
    · simp only [go_sem, h]
      rw [findI_none (fun j hj => hb j (by omega))]

set_option maxRecDepth 100000 in
theorem con_containsRow (l : Rel) (f : FuncId) (caps : List AV) (p : List Bool → Bool) (hc : mapTops (viewV []) caps = caps) (hf : TellsB f caps l p) (hl : l.length ≤ 9223372036854775806) : Con Try.prog 38 [vr 0 l, .fn f caps] [] fun r _ => r = .sc (.bool (l.any p)) := by
  refine Con.intro Try.func38 rfl Try.ntmps38 Try.results38 (by kernel_rfl) (by simp) 0 (by simp) ?_
  simp only [go_sem]
  refine CallU.look (con_indexRow l f caps p hc hf hl) (by simp only [go_sem]) (by simp only [go_sem]) ?_
  rintro r bx rfl
  simp only [go_sem, findI_ge]

/-- a row of another length -/
def badRow (m : Nat) (row : List Bool) : Bool := decide ¬row.length = m

set_option maxRecDepth 100000 in
theorem con_holds1 (row : List Bool) (b : Sys) : Con Try.prog 39 [vbl 0 row, .fp [.sl 0 1 (b.map (vl 0))] 0] [] fun r _ => r = .sc (.bool (badRow b.length row)) := by
  refine Con.intro Try.func39 rfl Try.ntmps39 Try.results39 (by kernel_rfl) (by simp) 0 (by simp) ?_
  simp only [go_sem]
  rfl

/-- a pair that does not match -/
def openS (a b : Sys) (r : Rel) : Prop := ∃ x y, x < a.length ∧ y < b.length ∧ rel r x y = true ∧ matchesF r a b x y = false

/-- what Holds returns, of valid systems and a relation of their states -/
def HoldsV (a b : Sys) (r : Rel) (e : Int) : Prop := (openS a b r ∧ e = 41) ∨ (¬ openS a b r ∧ e = if rel r 0 0 = true then 0 else 42)

set_option maxRecDepth 100000 in
theorem con_holds (a b : Sys) (r : Rel) (hab : bothS a b = 0) (ha : ∀ l ∈ a, l.length ≤ 281474976710656) (hb : ∀ l ∈ b, l.length ≤ 281474976710656) (hr : Sized r a.length b.length) :
    Con Try.prog 17 [vy 0 a, vy 0 b, vr 0 r] [] fun u _ => ∃ e, u = vi e ∧ HoldsV a b r e := by
  have hca : checkS a = 0 := by unfold bothS at hab; split at hab <;> assumption
  have hcb : checkS b = 0 := by unfold bothS at hab; rw [if_pos hca] at hab; exact hab
  obtain ⟨a1, a2, a3⟩ := checkS_ok hca
  obtain ⟨b1, b2, b3⟩ := checkS_ok hcb
  have ca : Closed1 a := ⟨a2, fun l hl => ⟨ha l hl, a3 l hl⟩⟩
  have cb : Closed1 b := ⟨b2, fun l hl => ⟨hb l hl, b3 l hl⟩⟩
  have hrl : r.length = a.length := hr.1
  refine Con.intro Try.func17 rfl Try.ntmps17 Try.results17 (by kernel_rfl) (by simp) 0 (by simp) ?_
  simp only [go_sem]
  refine CallU.free (con_both a b ha (by omega) hb (by omega)) (by simp only [go_sem]) (by simp only [go_sem]) ?_
  rintro u bx rfl
  have hnb : r.any (badRow b.length) = false := by
    rw [List.any_eq_false]
    intro row hm
    have := hr.2 row hm
    simp [badRow, this]
  simp only [go_sem, hab, hrl]
  refine CallU.look (con_containsRow r 39 [.fp [.sl 0 1 (b.map (vl 0))] 0] (badRow b.length) (by simp only [go_sem]) (fun q hq => con_holds1 q b) (by omega)) (by simp only [go_sem]) (by simp only [go_sem]) ?_
  rintro u bx rfl
  simp only [go_sem, hnb, hrl]
  refine LoopK.intro (fun x : Nat => ⟨61, [(2, vr 0 r), (3, .pb 0 0), (4, .pb 1 0), (29, vr 0 r), (30, vi a.length), (31, vi x)], [[.sl 0 1 (a.map (vl 0))], [.sl 0 1 (b.map (vl 0))]]⟩)
    (fun x => a.length - x) (fun x => x ≤ a.length ∧ ∀ i j, i < x → j < b.length → rel r i j = true → matchesF r a b i j = true) 0 ⟨by omega, fun i j hi => by omega⟩ ?_ ?_
  · simp only [go_sem]
  rintro x ⟨hx, hdone⟩
  by_cases h : x < a.length
  · have hxr : x < r.length := by omega
    have g1 := getvr hxr
    have hrow : r[x]!.length = b.length := hr.2 _ (mem_bang hxr)
    have hw : IntKind.i64.wrap (x + 1) = x + 1 := wrap_in (by omega) (by omega)
    simp only [go_sem, h, g1, hxr, hrow]
    refine LoopK.intro (fun y : Nat => ⟨61, [(2, vr 0 r), (3, .pb 0 0), (4, .pb 1 0), (8, vi x), (29, vr 0 r), (30, vi a.length), (31, vi x), (36, vbl 0 r[x]!), (37, vi b.length), (38, vi y)], [[.sl 0 1 (a.map (vl 0))], [.sl 0 1 (b.map (vl 0))]]⟩)
      (fun y => b.length - y) (fun y => y ≤ b.length ∧ ∀ j, j < y → rel r x j = true → matchesF r a b x j = true) 0 ⟨by omega, fun j hj => by omega⟩ ?_ ?_
    · simp only [go_sem]
    rintro y ⟨hy, hin⟩
    by_cases hy2 : y < b.length
    · have hyr : y < r[x]!.length := by omega
      have g2 := getvb hyr
      have hwy : IntKind.i64.wrap (y + 1) = y + 1 := wrap_in (by omega) (by omega)
      cases hb2 : r[x]![y]!
      · simp only [go_sem, hy2, g2, hyr, hb2, hwy]
        refine roundK.intro (y + 1) ⟨by omega, fun j hj hrel => ?_⟩ (by omega) ?_
        · by_cases hjy : j = y
          · subst hjy; rw [rel, hb2] at hrel; cases hrel
          · exact hin j (by omega) hrel
        · simp only [go_sem]
      · simp only [go_sem, hy2, g2, hyr, hb2]
        refine CallU.flat (con_matches r a b x y hr ca cb h hy2) (by simp only [go_sem]) (by simp only [go_sem]) ?_
        rintro u bx rfl
        cases hm : matchesF r a b x y
        · simp only [go_sem]
          exact ⟨41, rfl, .inl ⟨⟨x, y, h, hy2, hb2, hm⟩, rfl⟩⟩
        · simp only [go_sem, hwy]
          refine roundK.intro (y + 1) ⟨by omega, fun j hj hrel => ?_⟩ (by omega) ?_
          · by_cases hjy : j = y
            · subst hjy; exact hm
            · exact hin j (by omega) hrel
          · simp only [go_sem]
    · have hye : y = b.length := by omega
      subst hye
      simp only [go_sem, hy2, hw]
      refine roundK.intro (x + 1) ⟨by omega, fun i j hi hj hrel => ?_⟩ (by omega) ?_
      · by_cases hix : i = x
        · subst hix; exact hin j hj hrel
        · exact hdone i j (by omega) hj hrel
      · simp only [go_sem]
  · have hxe : x = a.length := by omega
    subst hxe
    have hnot : ¬ openS a b r := fun ⟨i, j, hi, hj, h1, h2⟩ => by rw [hdone i j hi hj h1] at h2; cases h2
    have h0 : 0 < r.length := by omega
    have h00 : 0 < r[0]!.length := by rw [hr.2 _ (mem_bang h0)]; omega
    have g1 := getvr h0
    have g2 := getvb h00
    cases hb2 : r[0]![0]!
    · simp only [go_sem, h, h0, h00, g1, g2, hb2]
      exact ⟨42, rfl, .inr ⟨hnot, by rw [rel, hb2]; rfl⟩⟩
    · simp only [go_sem, h, h0, h00, g1, g2, hb2]
      exact ⟨0, rfl, .inr ⟨hnot, by rw [rel, hb2]; rfl⟩⟩
end Go.AM

/-! ## SE -/
namespace Go.AM
open Go Go.Proofs Go.RowKit

theorem rel_ext {r s : Rel} {n m : Nat} (hr : Sized r n m) (hs : Sized s n m) (h : ∀ x y, x < n → y < m → rel r x y = rel s x y) : r = s := by
  refine ext_bang (by rw [hr.1, hs.1]) fun x hx => ?_
  have hxs : x < s.length := by rw [hs.1, ← hr.1]; exact hx
  have l1 := hr.2 _ (mem_bang hx)
  have l2 := hs.2 _ (mem_bang hxs)
  refine ext_bang (by rw [l1, l2]) fun y hy => ?_
  exact h x y (by rw [← hr.1]; exact hx) (by omega)
/-- there is one greatest relation -/
theorem great_one {a b : Sys} {r s : Rel} (hr : IsGreatest a b r) (hs : IsGreatest a b s) (ha : Inside a) (hb : Inside b) : r = s := by
  refine rel_ext hr.1 hs.1 fun x y hx hy => ?_
  have h1 : rel r x y = true → rel s x y = true := fun h => hs.greatest ha hb hr.sim hx hy h
  have h2 : rel s x y = true → rel r x y = true := fun h => hr.greatest ha hb hs.sim hx hy h
  cases h3 : rel r x y <;> cases h4 : rel s x y <;> simp_all

set_option maxRecDepth 100000 in
theorem con_rsim (a b : Sys) (hab : bothS a b = 0) (ha : ∀ l ∈ a, l.length ≤ 281474976710656) (hb : ∀ l ∈ b, l.length ≤ 281474976710656) :
    Con Try.prog 28 [vy 0 a, vy 0 b] [] fun r _ => ∃ v, r = .tup [.sc (.bool v), vi 0] ∧ Sim00 a b v := by
  have hca : checkS a = 0 := by unfold bothS at hab; split at hab <;> assumption
  have hcb : checkS b = 0 := by unfold bothS at hab; rw [if_pos hca] at hab; exact hab
  obtain ⟨a1, a2, a3⟩ := checkS_ok hca
  obtain ⟨b1, b2, b3⟩ := checkS_ok hcb
  refine Con.intro Try.func28 rfl Try.ntmps28 Try.results28 (by kernel_rfl) (by simp) 0 (by simp) ?_
  simp only [go_sem]
  refine CallU.free (con_rgreatest a b hab ha hb) (by simp only [go_sem]) (by simp only [go_sem]) ?_
  rintro r bx ⟨R, rfl, hR⟩
  have h0 : 0 < R.length := by rw [hR.1.1]; omega
  have hr0 : 0 < R[0]!.length := by rw [hR.1.2 _ (mem_bang h0)]; omega
  have g1 := gettb (t := 770) h0
  have g2 := getvb hr0
  simp only [go_sem, h0, hr0, g1, g2]
  exact ⟨_, rfl, R, hR, rfl⟩

/-- what Holds returns, of valid systems and any relation -/
def HoldsW (a b : Sys) (r : Rel) (e : Int) : Prop := (¬ Sized r a.length b.length ∧ e = 46) ∨ (Sized r a.length b.length ∧ HoldsV a b r e)
theorem HoldsW.one {a b : Sys} {r : Rel} {e f : Int} (h : HoldsW a b r e) (k : HoldsW a b r f) : e = f := by
  rcases h with ⟨h1, rfl⟩ | ⟨h1, h2⟩ <;> rcases k with ⟨k1, rfl⟩ | ⟨k1, k2⟩
  · rfl
  · exact absurd k1 h1
  · exact absurd h1 k1
  · rcases h2 with ⟨h2, rfl⟩ | ⟨h2, rfl⟩ <;> rcases k2 with ⟨k2, rfl⟩ | ⟨k2, rfl⟩
    · rfl
    · exact absurd h2 k2
    · exact absurd k2 h2
    · rfl

set_option maxRecDepth 100000 in
set_option maxHeartbeats 1000000 in
theorem con_rholds (a b : Sys) (r : Rel) (hab : bothS a b = 0) (ha : ∀ l ∈ a, l.length ≤ 281474976710656) (hb : ∀ l ∈ b, l.length ≤ 281474976710656) (_hrl0 : r.length ≤ 9223372036854775806) :
    Con Try.prog 29 [vy 0 a, vy 0 b, vr 0 r] [] fun u _ => ∃ e, u = vi e ∧ HoldsW a b r e := by
  have hca : checkS a = 0 := by unfold bothS at hab; split at hab <;> assumption
  have hcb : checkS b = 0 := by unfold bothS at hab; rw [if_pos hca] at hab; exact hab
  obtain ⟨a1, a2, a3⟩ := checkS_ok hca
  obtain ⟨b1, b2, b3⟩ := checkS_ok hcb
  have ca : Closed1 a := ⟨a2, fun l hl => ⟨ha l hl, a3 l hl⟩⟩
  have cb : Closed1 b := ⟨b2, fun l hl => ⟨hb l hl, b3 l hl⟩⟩
  refine Con.intro Try.func29 rfl Try.ntmps29 Try.results29 (by kernel_rfl) (by simp) 0 (by simp) ?_
  simp only [go_sem]
  refine CallU.free (con_rboth a b ha (by omega) hb (by omega)) (by simp only [go_sem]) (by simp only [go_sem]) ?_
  rintro u bx rfl
  by_cases hrl : r.length = a.length
  case neg =>
    simp only [go_sem, hab, hrl]
    exact ⟨46, rfl, .inl ⟨fun h => hrl h.1, rfl⟩⟩
  simp only [go_sem, hab, hrl]
  refine LoopK.intro (fun x : Nat => ⟨75, [(2, vr 0 r), (3, .pb 0 0), (4, .pb 1 0), (6, vi 0), (8, vi x)], [[.sl 0 1 (a.map (vl 0))], [.sl 0 1 (b.map (vl 0))]]⟩)
    (fun x => a.length - x) (fun x => x ≤ a.length ∧ ∀ i, i < x → r[i]!.length = b.length) 0 ⟨by omega, fun i hi => by omega⟩ ?_ ?_
  · simp only [go_sem]
  rintro x ⟨hx, hdone⟩
  by_cases h : x < a.length
  · have hxr : x < r.length := by omega
    have g1 := getvr hxr
    have hw : IntKind.i64.wrap (x + 1) = x + 1 := wrap_in (by omega) (by omega)
    simp only [go_sem, h, hrl]
    refine DrawK.walk 9 mixed (by kernel_rfl) ?_
    by_cases hrow : r[x]!.length = b.length
    · simp only [go_sem, h, hrl, g1, hrow, hw]
      refine roundK.intro (x + 1) ⟨by omega, fun i hi => ?_⟩ (by omega) ?_
      · by_cases hix : i = x
        · subst hix; exact hrow
        · exact hdone i (by omega)
      · simp only [go_sem]
    · simp only [go_sem, h, hrl, g1, hrow]
      exact ⟨46, rfl, .inl ⟨fun hs => hrow (hs.2 _ (mem_bang hxr)), rfl⟩⟩
  have hxe : x = a.length := by omega
  subst hxe
  have hr : Sized r a.length b.length := ⟨hrl, fun row hm => by
    obtain ⟨i, hi⟩ := List.getElem?_of_mem hm
    have hil := (List.getElem?_eq_some_iff.1 hi).1
    have := hdone i (by omega)
    rw [bang_of hi] at this; exact this⟩
  simp only [go_sem, h, hrl]
  refine LoopK.intro (fun x : Nat => ⟨75, [(2, vr 0 r), (3, .pb 0 0), (4, .pb 1 0), (6, vi 0), (9, vi x)], [[.sl 0 1 (a.map (vl 0))], [.sl 0 1 (b.map (vl 0))]]⟩)
    (fun x => a.length - x) (fun x => x ≤ a.length ∧ ∀ i j, i < x → j < b.length → rel r i j = true → matchesF r a b i j = true) 0 ⟨by omega, fun i j hi => by omega⟩ ?_ ?_
  · simp only [go_sem]
  rintro x ⟨hx, hdone⟩
  by_cases h : x < a.length
  · have hxr : x < r.length := by omega
    have g1 := getvr hxr
    have hrow : r[x]!.length = b.length := hr.2 _ (mem_bang hxr)
    have hw : IntKind.i64.wrap (x + 1) = x + 1 := wrap_in (by omega) (by omega)
    simp only [go_sem, h, hrl]
    refine LoopK.intro (fun y : Nat => ⟨75, [(2, vr 0 r), (3, .pb 0 0), (4, .pb 1 0), (6, vi 0), (9, vi x), (10, vi y)], [[.sl 0 1 (a.map (vl 0))], [.sl 0 1 (b.map (vl 0))]]⟩)
      (fun y => b.length - y) (fun y => y ≤ b.length ∧ ∀ j, j < y → rel r x j = true → matchesF r a b x j = true) 0 ⟨by omega, fun j hj => by omega⟩ ?_ ?_
    · simp only [go_sem]
    rintro y ⟨hy, hin⟩
    by_cases hy2 : y < b.length
    · have hyr : y < r[x]!.length := by omega
      have g2 := getvb hyr
      have hwy : IntKind.i64.wrap (y + 1) = y + 1 := wrap_in (by omega) (by omega)
      cases hb2 : r[x]![y]!
      · simp only [go_sem, h, hrl, g1, hrow, hy2, g2, hb2, hwy]
        refine roundK.intro (y + 1) ⟨by omega, fun j hj hrel => ?_⟩ (by omega) ?_
        · by_cases hjy : j = y
          · subst hjy; rw [rel, hb2] at hrel; cases hrel
          · exact hin j (by omega) hrel
        · simp only [go_sem]
      · simp only [go_sem, h, hrl, g1, hrow, hy2, g2, hb2]
        refine CallU.flat (con_can r a b x y hr ca cb h hy2) (by simp only [go_sem]) (by simp only [go_sem]) ?_
        rintro u bx rfl
        cases hm : matchesF r a b x y
        · simp only [go_sem]
          exact ⟨41, rfl, .inr ⟨hr, .inl ⟨⟨x, y, h, hy2, hb2, hm⟩, rfl⟩⟩⟩
        · simp only [go_sem, hwy]
          refine roundK.intro (y + 1) ⟨by omega, fun j hj hrel => ?_⟩ (by omega) ?_
          · by_cases hjy : j = y
            · subst hjy; exact hm
            · exact hin j (by omega) hrel
          · simp only [go_sem]
    · have hye : y = b.length := by omega
      subst hye
      simp only [go_sem, h, hrl, g1, hrow, hy2, hw]
      refine roundK.intro (x + 1) ⟨by omega, fun i j hi hj hrel => ?_⟩ (by omega) ?_
      · by_cases hix : i = x
        · subst hix; exact hin j hj hrel
        · exact hdone i j (by omega) hj hrel
      · simp only [go_sem]
  · have hxe : x = a.length := by omega
    subst hxe
    have hnot : ¬ openS a b r := fun ⟨i, j, hi, hj, h1, h2⟩ => by rw [hdone i j hi hj h1] at h2; cases h2
    have h0 : 0 < r.length := by omega
    have h00 : 0 < r[0]!.length := by rw [hr.2 _ (mem_bang h0)]; omega
    have g1 := getvr h0
    have g2 := getvb h00
    cases hb2 : r[0]![0]!
    · simp only [go_sem, h, hrl, h00, g1, g2, hb2]
      exact ⟨a1, 42, rfl, .inr ⟨hr, .inr ⟨hnot, by rw [rel, hb2]; rfl⟩⟩⟩
    · simp only [go_sem, h, hrl, h00, g1, g2, hb2]
      exact ⟨a1, 0, rfl, .inr ⟨hr, .inr ⟨hnot, by rw [rel, hb2]; rfl⟩⟩⟩
end Go.AM

/-! ## WE -/
namespace Go.AM
open Go Go.Proofs Go.RowKit

set_option maxRecDepth 100000 in
theorem con_clip (l : List Int) (_hl : l.length ≤ 9223372036854775806) : Con Try.prog 34 [vs 0 l] [] fun r _ => r = .sl 1 1 (l.map vi) := by
  refine Con.intro Try.func34 rfl Try.ntmps34 Try.results34 (by kernel_rfl) (by simp) 0 (by simp) ?_
  have e : (List.take l.length (List.map vi l)).drop 0 = List.map vi l := by rw [List.drop_zero]; exact List.take_of_length_le (by simp)
  simp only [go_sem, e]
  simp

/-- no two neighbours are equal -/
def Apart1 (l : List Int) : Prop := ∀ k, 1 ≤ k → k < l.length → l[k]! ≠ l[k - 1]!

set_option maxRecDepth 100000 in
theorem con_compact (l : List Int) (hl : l.length ≤ 1000000) (ha : Apart1 l) : Con Try.prog 53 [vs 0 l] [] fun r _ => r = vs 0 l := by
  refine Con.intro Try.func53 rfl Try.ntmps53 Try.results53 (by kernel_rfl) (by simp) 0 (by simp) ?_
  by_cases h : (l.length : Int) < 2
  · simp only [go_sem, h]
  simp only [go_sem, h]
  refine LoopK.intro (fun k : Nat => ⟨61, [(0, .sl 0 1 (l.map vi)), (3, .sc (.int .i64 k))], []⟩) (fun k => l.length - k) (fun k => 1 ≤ k ∧ k ≤ l.length) 1 ⟨by omega, by omega⟩ ?_ ?_
  · simp only [go_sem]
  rintro k ⟨h1, h2⟩
  by_cases hk : k < l.length
  · have hw : IntKind.i64.wrap (k + 1) = k + 1 := wrap_in (by omega) (by omega)
    have hw2 : IntKind.i64.wrap ((k : Int) - 1) = (k - 1 : Nat) := by rw [wrap_in (by omega) (by omega)]; omega
    have hk2 : k - 1 < l.length := by omega
    have g1 := getv hk
    have g2 := getv hk2
    have hne : (l[k]! == l[k - 1]!) = false := by simpa using ha k h1 hk
    simp only [go_sem, hk]
    refine DrawK.walk 10 mixed (by kernel_rfl) ?_
    simp only [go_sem, hk, g1, g2, hw2, hk2, hne, hw]
    refine roundK.intro (k + 1) ⟨by omega, by omega⟩ (by omega) ?_
    simp only [go_sem]
  · simp only [go_sem, hk]

set_option maxRecDepth 100000 in
theorem con_compactS (l : List Int) (hl : l.length ≤ 1000000) (ha : Apart1 l) : Con Try.prog 55 [vs 0 l] [] fun r _ => r = vs 0 l := by
  refine Con.intro Try.func55 rfl Try.ntmps55 Try.results55 (by kernel_rfl) (by simp) 0 (by simp) ?_
  by_cases h : (l.length : Int) < 2
  · simp only [go_sem, h]
  simp only [go_sem, h]
  refine LoopK.intro (fun k : Nat => ⟨61, [(0, .sl 0 1 (l.map vi)), (3, .sc (.int .i64 k))], []⟩) (fun k => l.length - k) (fun k => 1 ≤ k ∧ k ≤ l.length) 1 ⟨by omega, by omega⟩ ?_ ?_
  · simp only [go_sem]
  rintro k ⟨h1, h2⟩
  by_cases hk : k < l.length
  · have hw : IntKind.i64.wrap (k + 1) = k + 1 := wrap_in (by omega) (by omega)
    have hw2 : IntKind.i64.wrap ((k : Int) - 1) = (k - 1 : Nat) := by rw [wrap_in (by omega) (by omega)]; omega
    have hk2 : k - 1 < l.length := by omega
    have g1 := getv hk
    have g2 := getv hk2
    have hne : (l[k]! == l[k - 1]!) = false := by simpa using ha k h1 hk
    simp only [go_sem, hk]
    refine DrawK.walk 10 mixed (by kernel_rfl) ?_
    simp only [go_sem, hk, g1, g2, hw2, hk2, hne, hw]
    refine roundK.intro (k + 1) ⟨by omega, by omega⟩ (by omega) ?_
    simp only [go_sem]
  · simp only [go_sem, hk]

set_option maxRecDepth 100000 in
theorem con_len64 (n : Nat) (hn : n ≤ 3) : Con Try.prog 81 [vq n] [] fun r _ => ∃ v, r = vi v := by
  refine Con.intro Try.func81 rfl Try.ntmps81 Try.results81 (by kernel_rfl) (by simp) 0 (by simp) ?_
  have h1 : ¬ (4294967296 : Int) ≤ n := by omega
  have h2 : ¬ (65536 : Int) ≤ n := by omega
  have h3 : ¬ (256 : Int) ≤ n := by omega
  simp only [go_sem, h1, h2, h3]
  have h : n = 0 ∨ n = 1 ∨ n = 2 ∨ n = 3 := by omega
  rcases h with rfl | rfl | rfl | rfl
  · refine ⟨0, by kernel_rfl, ?_⟩
    simp only [go_sem]
    exact ⟨_, rfl⟩
  · refine ⟨1, by kernel_rfl, ?_⟩
    simp only [go_sem]
    exact ⟨_, rfl⟩
  · refine ⟨2, by kernel_rfl, ?_⟩
    simp only [go_sem]
    exact ⟨_, rfl⟩
  · refine ⟨2, by kernel_rfl, ?_⟩
    simp only [go_sem]
    exact ⟨_, rfl⟩

set_option maxRecDepth 100000 in
theorem con_isnan (x : Int) : Con Try.prog 89 [vi x] [] fun r _ => r = .sc (.bool false) := by
  refine Con.intro Try.func89 rfl Try.ntmps89 Try.results89 (by kernel_rfl) (by simp) 0 (by simp) ?_
  have h : (x != x) = false := by simp
  simp only [go_sem, h]

set_option maxRecDepth 100000 in
theorem con_less (x y : Int) : Con Try.prog 77 [vi x, vi y] [] fun r _ => r = .sc (.bool (decide (x < y))) := by
  refine Con.intro Try.func77 rfl Try.ntmps77 Try.results77 (by kernel_rfl) (by simp) 0 (by simp) ?_
  simp only [go_sem]
  refine CallU.free (con_isnan x) (by simp only [go_sem]) (by simp only [go_sem]) ?_
  rintro r bx rfl
  simp only [go_sem]

def Asc (l : List Int) : Prop := ∀ k, 1 ≤ k → k < l.length → l[k - 1]! ≤ l[k]!

set_option maxRecDepth 100000 in
theorem con_insertion (l : List Int) (hl : l.length ≤ 12) (ha : Asc l) : Con Try.prog 71 [vs 0 l, vi 0, vi l.length] [] fun r _ => r = .tup [] := by
  refine Con.intro Try.func71 rfl Try.ntmps71 Try.results71 (by kernel_rfl) (by simp) 0 (by simp) ?_
  simp only [go_sem]
  refine LoopK.intro (fun i : Nat => ⟨49, [(0, .sl 0 1 (l.map vi)), (1, .sc (.int .i64 0)), (2, .sc (.int .i64 l.length)), (6, .sc (.int .i64 i))], []⟩) (fun i => l.length - i) (fun i => 1 ≤ i) 1 (by omega) ?_ ?_
  · have w1 : IntKind.i64.wrap 1 = 1 := wrap_in (by omega) (by omega)
    simp only [go_sem, w1]
  intro i h1
  by_cases hi : i < l.length
  case neg =>
    simp only [go_sem, hi]
  have hw : IntKind.i64.wrap (i + 1) = i + 1 := wrap_in (by omega) (by omega)
  have hw2 : IntKind.i64.wrap ((i : Int) - 1) = (i - 1 : Nat) := by rw [wrap_in (by omega) (by omega)]; omega
  have hi2 : i - 1 < l.length := by omega
  have g1 := getv hi
  have g2 := getv hi2
  have hp : (0 : Int) < i := by omega
  have hlt : ¬ l[i]! < l[i - 1]! := by have := ha i h1 hi; omega
  simp only [go_sem, hi]
  refine LoopK.intro (fun _ : Unit => ⟨49, [(0, .sl 0 1 (l.map vi)), (1, .sc (.int .i64 0)), (2, .sc (.int .i64 l.length)), (6, .sc (.int .i64 i)), (7, .sc (.int .i64 i))], []⟩) (fun _ => 0) (fun _ => True) () trivial ?_ ?_
  · simp only [go_sem]
  rintro ⟨⟩ _
  simp only [go_sem]
  refine DrawK.walk 15 mixed (by kernel_rfl) ?_
  simp only [go_sem, hp, hi, hi2, g1, g2, hw2]
  refine CallY.mk (con_less l[i]! l[i - 1]!) (by simp only [go_sem]) (by simp only [go_sem]) (.inl rfl) ?_
  simp only [go_sem, hlt, hw]
  refine roundK.intro (i + 1) (by show 1 ≤ i + 1; omega) (by show l.length - (i + 1) < l.length - i; omega) ?_
  simp only [go_sem]

set_option maxRecDepth 100000 in
theorem con_pdq (l : List Int) (hl : l.length ≤ 12) (ha : Asc l) (v : Int) : Con Try.prog 63 [vs 0 l, vi 0, vi l.length, vi v] [] fun r _ => r = .tup [] := by
  refine Con.intro Try.func63 rfl Try.ntmps63 Try.results63 (by kernel_rfl) (by simp) 0 (by simp) ?_
  simp only [go_sem]
  refine LoopK.intro (fun _ : Unit => ⟨134, [(0, .sl 0 1 (l.map vi)), (1, .sc (.int .i64 0)), (2, .sc (.int .i64 l.length))], []⟩) (fun _ => 0) (fun _ => True) () trivial ?_ ?_
  · simp only [go_sem]
  rintro ⟨⟩ _
  have hw : IntKind.i64.wrap ((l.length : Int) - 0) = l.length := by rw [wrap_in (by omega) (by omega)]; omega
  have h12 : (l.length : Int) ≤ 12 := by omega
  simp only [go_sem, hw, h12]
  refine CallU.free (con_insertion l hl ha) (by simp only [go_sem]) (by simp only [go_sem]) ?_
  rintro r bx rfl
  simp only [go_sem]

set_option maxRecDepth 100000 in
theorem con_len (n : Nat) (hn : n ≤ 3) : Con Try.prog 64 [vq n] [] fun r _ => ∃ v, r = vi v := by
  refine Con.intro Try.func64 rfl Try.ntmps64 Try.results64 (by kernel_rfl) (by simp) 0 (by simp) ?_
  simp only [go_sem]
  refine CallU.free (con_len64 n hn) (by simp only [go_sem]) (by simp only [go_sem]) ?_
  rintro r bx ⟨v, rfl⟩
  simp only [go_sem]
  exact ⟨v, rfl⟩

set_option maxRecDepth 100000 in
theorem con_sort52 (l : List Int) (hl : l.length ≤ 3) (ha : Asc l) : Con Try.prog 52 [vs 0 l] [] fun r _ => r = .tup [] := by
  refine Con.intro Try.func52 rfl Try.ntmps52 Try.results52 (by kernel_rfl) (by simp) 0 (by simp) ?_
  have w2 : IntKind.u64.wrap (l.length : Int) = l.length := by rw [IntKind.wrap_u64]; omega
  simp only [go_sem, w2]
  refine CallU.free (con_len l.length hl) (by simp only [go_sem]) (by simp only [go_sem]) ?_
  rintro r bx ⟨v, rfl⟩
  simp only [go_sem]
  refine CallU.free (con_pdq l (by omega) ha v) (by simp only [go_sem]) (by simp only [go_sem]) ?_
  rintro r bx rfl
  simp only [go_sem]

set_option maxRecDepth 100000 in
theorem con_sort54 (l : List Int) (hl : l.length ≤ 3) (ha : Asc l) : Con Try.prog 54 [vs 0 l] [] fun r _ => r = .tup [] := by
  refine Con.intro Try.func54 rfl Try.ntmps54 Try.results54 (by kernel_rfl) (by simp) 0 (by simp) ?_
  have w2 : IntKind.u64.wrap (l.length : Int) = l.length := by rw [IntKind.wrap_u64]; omega
  simp only [go_sem, w2]
  refine CallU.free (con_len l.length hl) (by simp only [go_sem]) (by simp only [go_sem]) ?_
  rintro r bx ⟨v, rfl⟩
  simp only [go_sem]
  refine CallU.free (con_pdq l (by omega) ha v) (by simp only [go_sem]) (by simp only [go_sem]) ?_
  rintro r bx rfl
  simp only [go_sem]
end Go.AM

/-! ## AmZ -/
namespace Go.AM
open Go.RowKit Go.Proofs Go.Shelf

/-- integers as elements -/
def ai (l : List Int) : List AV := l.map fun n => .sc (.int .i64 n)
theorem ai_exact (l : List Int) : ai l = exact (l.map (Value.int .i64)) := by simp [ai, exact]
theorem ai_len (l : List Int) : (ai l).length = l.length := by simp [ai]
theorem ai_one (l : List Int) : One (l.map (Value.int .i64)) := fun u hu => by
  obtain ⟨n, _, rfl⟩ := List.mem_map.1 hu; rfl

theorem VRel.ints {G : Nat → Status} {w : World} {t : Nat} {l : List Int} {v : Value} (h : VRel G w (.sl t 1 (ai l)) v) (ht : 2 ≤ t) (hl : 0 < l.length) :
    ∃ g cap cur e, v = .slice (some ⟨g, 0, none⟩) l.length cap ∧ G g = .tag t ∧ w.heap[g]? = some (.cells cur e (0, 0)) ∧ l.length ≤ cap ∧ cap ≤ maxLen ∧ cur.size = cap ∧ cur.toList.take l.length = l.map (Value.int .i64) := by
  rw [ai_exact] at h
  generalize hL : exact (l.map (Value.int .i64)) = L at h
  cases h with
  | froz h => exfalso; cases h <;> omega
  | own _ _ _ _ e vals _ h2 h3 h4 h0 h5 =>
    rw [← hL] at h2 h5
    have hv := exact_inv h5
    subst hv
    simp only [exact_len, List.length_map] at h2
    rcases h2.2 with ⟨_, hz⟩ | ⟨g, cap, cur, hv, _, hh, hn, hc, hs, ht⟩
    · omega
    · exact ⟨g, cap, cur, e, hv, h3 g (by rw [hv]; rfl), hh, hn, hc, by simpa using hs, by simpa using ht⟩

theorem ints_holds {w : World} {g _cap : Nat} {cur : Array Value} {e : TypeId} {l : List Int} (hh : w.heap[g]? = some (.cells cur e (0, 0))) (ht : cur.toList.take l.length = l.map (Value.int .i64)) :
    Go.Sort.Holds (Value.int .i64) w g 0 l.toArray := fun j hj => by
  have hj' : j < l.length := by simpa using hj
  have h1 : cur.toList[j]? = some (.int .i64 l[j]!) := by
    have := congrArg (fun m : List Value => m[j]?) ht
    simp only [List.getElem?_take, if_pos hj', List.getElem?_map, List.getElem?_eq_getElem hj', Option.map_some] at this
    rw [this, getElem!_pos l j hj']
  refine ⟨?_, by simp [World.frozen?, hh]⟩
  simp only [World.cell?, hh, Nat.zero_add]
  simpa [hj'] using h1

theorem take_putCells {cur : Array Value} {l : List Int} (h : l.length ≤ cur.size) : (Go.Sort.putCells (Value.int .i64) 0 l.toArray cur).toList.take l.length = l.map (Value.int .i64) := by
  apply List.ext_getElem?
  intro k
  simp only [List.getElem?_take, Go.Sort.putCells, Array.getElem?_toList, Array.getElem?_mapIdx, List.getElem?_map]
  by_cases hk : k < l.length
  · have hc : k < cur.size := by omega
    simp [hk, hc]
  · simp [hk]

/-- the world behind a library function that wrote into the row alone -/
theorem ints_put {G : Nat → Status} {w : World} {t g cap n : Nat} {cur : Array Value} {e : TypeId} {l l' : List Int} {os : Array Obj} (ht : 2 ≤ t) (hg : Good G w) (hG : G g = .tag t) (hh : w.heap[g]? = some (.cells cur e (0, 0)))
    (hlen : l'.length = l.length) (hc : l.length ≤ cap) (hm : cap ≤ maxLen) (hs : cur.size = cap) {w' : World} (hw : w' = Go.Sort.grow (Go.Sort.putRow (Value.int .i64) (Go.Sort.ahead w n) g 0 l'.toArray) os) :
    (∀ k, k ≤ l'.length → VRel G w' (.sl t 1 (ai (l'.take k))) (.slice (some ⟨g, 0, none⟩) k cap)) ∧ Good G w' ∧ w'.os = w.os ∧ w'.tape = w.tape ∧ w'.output = w.output ∧ w.heap.size ≤ w'.heap.size ∧
      (∀ b, b < w.heap.size → (∀ t, G b ≠ .tag t) → w'.heap[b]? = w.heap[b]?) := by
  have hgl : g < w.heap.size := by
    rcases Nat.lt_or_ge g w.heap.size with h | h
    · exact h
    · simp [Array.getElem?_eq_none h] at hh
  have hsz : w'.heap.size = w.heap.size + os.size := by rw [hw]; simp
  have hb : ∀ b, b < w.heap.size → b ≠ g → w'.heap[b]? = w.heap[b]? := fun b hb hne => by
    rw [hw]
    simp only [Go.Sort.grow, Go.Sort.putRow, Go.Sort.mapBlock, Go.Sort.ahead]
    rw [Array.getElem?_append_left (by simpa using hb), Array.getElem?_modify, if_neg (Ne.symm hne)]
  have hbg : w'.heap[g]? = some (.cells (Go.Sort.putCells (Value.int .i64) 0 l'.toArray cur) e (0, 0)) := by
    rw [hw]
    simp only [Go.Sort.grow, Go.Sort.putRow, Go.Sort.mapBlock, Go.Sort.ahead]
    rw [Array.getElem?_append_left (by simpa using hgl), Array.getElem?_modify, if_pos rfl, hh]
    rfl
  refine ⟨fun k hk => ?_, ⟨fun b hb => Nat.lt_of_lt_of_le (hg.lt b hb) (by omega), hg.tags, hg.boxes⟩, by rw [hw]; rfl, by rw [hw]; rfl, by rw [hw]; rfl, by omega, fun b hb' hn => hb b hb' fun h => by subst h; exact hn t hG⟩
  have hkl : (l'.take k).length = k := by rw [List.length_take]; omega
  rw [ai_exact]
  refine .own t 1 _ _ e ((l'.take k).map (Value.int .i64)) ht ?_ (fun b hb => by simp only [Value.ownBlock, Option.some.injEq] at hb; rw [← hb]; exact hG) (exact_wide _) (ai_one _) exact_rel
  rw [exact_len, List.length_map, hkl]
  refine ⟨by rw [List.length_map, hkl]; omega, .inr ⟨g, cap, _, rfl, Nat.zero_le _, hbg, by omega, hm, by simp [Go.Sort.putCells, hs], ?_⟩⟩
  rw [Nat.mul_one]
  have := take_putCells (cur := cur) (l := l') (by omega)
  have h2 := congrArg (List.take k) this
  rw [List.take_take, Nat.min_eq_left hk] at h2
  rw [h2, List.map_take]

/-- the list in ascending order -/
def sortI (l : List Int) : List Int := l.mergeSort fun x y => decide (x ≤ y)

theorem conw_sort {P : Program} {ρ : Go.Shelf.Ren} (Ly : Lays.n189 P ρ) (hcall : Callable P (ρ.f 189)) (l : List Int) (h0 : 0 < l.length) (hl : l.length < 4611686018427387904) :
    ConW P (ρ.f 189) [.sl 2 1 (ai l)] fun r ys => r = .tup [] ∧ ys = [.sl 2 1 (ai (sortI l))] := by
  refine ⟨hcall, fun G w vs hg hnb hv => ?_⟩
  obtain ⟨v, vr, he, h1, h2⟩ := hv.cons_inv
  have := h2.nil_inv
  subst this
  obtain ⟨g, cap, cur, e, rfl, hG, hh, hc, hm, hs, ht⟩ := h1.ints (by omega) h0
  have hvs : vs = #[.slice (some ⟨g, 0, none⟩) l.length cap] := by cases vs; simp_all
  subst hvs
  have hlt : g < w.heap.size := by
    rcases Nat.lt_or_ge g w.heap.size with h | h
    · exact h
    · simp [Array.getElem?_eq_none h] at hh
  refine (Go.Proofs.Any.slices_Sort_int Ly g 0 cap l w (ints_holds (_cap := cap) hh ht) hlt hl).mono fun e' w' ⟨he', n, os, hw⟩ => ?_
  have hlen : (sortI l).length = l.length := by simp [sortI]
  obtain ⟨k1, k2, k3, k4, k5, k6, k7⟩ := ints_put (l := l) (l' := sortI l) (t := 2) (by omega) hg hG hh hlen hc hm hs hw
  have k0 := k1 _ (Nat.le_refl _)
  rw [List.take_length, hlen] at k0
  refine ⟨_, .tup [], _, G, he', ⟨rfl, rfl⟩, .tup [] _ rfl (fun j x u h => by simp at h), .cons k0 (.nil _), k2, hnb, k3, k4, k5, k6, fun _ _ _ => rfl, k7⟩

/-- math/bits.Len -/
theorem con_bitsLen {P : Program} {ρ : Ren} (Ly : Lays.n189 P ρ) (hcall : Callable P (ρ.f 125)) (n : Nat) (hn : n < 4611686018427387904) :
    Con P (ρ.f 125) [.sc (.int .u64 n)] [] fun r _ => r = .sc (.int .i64 (Go.Sort.bitsLen n : Nat)) := by
  refine ⟨hcall, fun G w vs hg h2 h3 h4 hv => ?_⟩
  obtain ⟨v, vr, he, h1, h2'⟩ := hv.cons_inv
  have := h2'.nil_inv
  subst this
  have := h1.sc_inv
  subst this
  have hvs : vs = #[.int .u64 n] := by cases vs; simp_all
  subst hvs
  refine (calls_of_every_depth fun D => Any.lenWalkInAll { Ly with } D n w hn).mono fun e' w' ⟨he', hw⟩ => ?_
  subst hw
  exact ⟨_, _, [], G, he', rfl, .froz (.sc _), hg, ⟨fun i vs hv => by simp [noGh] at hv, fun i cs hi => by simp at hi⟩, h3, rfl, rfl, rfl, Nat.le_refl _, fun _ _ => rfl, fun _ _ _ => rfl⟩

/-- the library's pdqsort, as Sort calls it -/
theorem conw_pdq {P : Program} {ρ : Ren} (Ly : Lays.n189 P ρ) (hcall : Callable P (ρ.f 257)) (l : List Int) (h0 : 0 < l.length) (hl : l.length < 4611686018427387904) :
    ConW P (ρ.f 257) [.sl 2 1 (ai l), .sc (.int .i64 0), .sc (.int .i64 l.length), .sc (.int .i64 (Go.Sort.bitsLen l.length : Nat))] fun r ys =>
      r = .tup [] ∧ ys = [.sl 2 1 (ai (sortI l)), .sc (.int .i64 0), .sc (.int .i64 l.length), .sc (.int .i64 (Go.Sort.bitsLen l.length : Nat))] := by
  refine ⟨hcall, fun G w vs hg hnb hv => ?_⟩
  obtain ⟨v, vr, he, h1, h2⟩ := hv.cons_inv
  obtain ⟨v2, vr2, rfl, h3, h4⟩ := h2.cons_inv
  obtain ⟨v3, vr3, rfl, h5, h6⟩ := h4.cons_inv
  obtain ⟨v4, vr4, rfl, h7, h8⟩ := h6.cons_inv
  have := h8.nil_inv
  subst this
  have e2 := h3.sc_inv; subst e2
  have e3 := h5.sc_inv; subst e3
  have e4 := h7.sc_inv; subst e4
  obtain ⟨g, cap, cur, e, rfl, hG, hh, hc, hm, hs, ht⟩ := h1.ints (by omega) h0
  have hvs : vs = #[.slice (some ⟨g, 0, none⟩) l.length cap, .int .i64 0, .int .i64 l.length, .int .i64 (Go.Sort.bitsLen l.length : Nat)] := by cases vs; simp_all
  subst hvs
  have hlt : g < w.heap.size := by
    rcases Nat.lt_or_ge g w.heap.size with h | h
    · exact h
    · simp [Array.getElem?_eq_none h] at hh
  have hk : Go.Sort.bitsLen l.length ≤ 62 := (Go.Sort.bitsLen_le_iff l.length 62).2 (by omega)
  have hdp := Go.Sort.pdqDepth_le_59 Go.Sort.ltInt l.toArray 0 l.length (Go.Sort.bitsLen l.length) true true (by omega)
  have hcalls : Calls P (ρ.f 257) #[.slice (some ⟨g, 0, none⟩) l.length cap, .int .i64 0, .int .i64 l.length, .int .i64 (Go.Sort.bitsLen l.length : Nat)] w fun e w' =>
      e = .returned (.tuple #[]) ∧ ∃ n os, w' = Go.Sort.grow (Go.Sort.putRow (Value.int .i64) (Go.Sort.ahead w n) g 0 (sortI l).toArray) os := by
    refine (calls_of_every_depth (n := 65) fun D => Any.pdqWalkInInt { Ly with } D 65 g 0 cap 0 l.length (Go.Sort.bitsLen l.length) l.toArray w (by omega) (ints_holds (_cap := cap) hh ht) hlt (Nat.zero_le _) (by simp) (by simpa using hl) (by omega) (.inl rfl)).mono ?_
    rintro e' w' ⟨he', n, os, hw⟩
    refine ⟨he', n, os, ?_⟩
    have := Any.sort_int_eqD l
    unfold Go.Sort.sort at this
    rw [hw]
    unfold sortI
    rw [← this]; simp
  refine hcalls.mono fun e' w' ⟨he', n, os, hw⟩ => ?_
  have hlen : (sortI l).length = l.length := by simp [sortI]
  obtain ⟨k1, k2, k3, k4, k5, k6, k7⟩ := ints_put (l := l) (l' := sortI l) (t := 2) (by omega) hg hG hh hlen hc hm hs hw
  have k0 := k1 _ (Nat.le_refl _)
  rw [List.take_length, hlen] at k0
  exact ⟨_, .tup [], _, G, he', ⟨rfl, rfl⟩, .tup [] _ rfl (fun j x u h => by simp at h), .cons k0 (.cons (.froz (.sc _)) (.cons (.froz (.sc _)) (.cons (.froz (.sc _)) (.nil _)))), k2, hnb, k3, k4, k5, k6, fun _ _ _ => rfl, k7⟩

theorem conw_compact {P : Program} {ρ : Go.Shelf.Ren} (Ly : Lays2.n20 P ρ) (hcall : Callable P (ρ.f 20)) (l : List Int) (h0 : 0 < l.length) (hl : l.length < 4611686018427387904) :
    ConW P (ρ.f 20) [.sl 2 1 (ai l)] fun r ys => r = .sl 2 1 (ai (Go.Lib.compact l)) ∧ ∃ zs, ys = [.sl 2 1 zs] ∧ zs.length = l.length := by
  refine ⟨hcall, fun G w vs hg hnb hv => ?_⟩
  obtain ⟨v, vr, he, h1, h2⟩ := hv.cons_inv
  have := h2.nil_inv
  subst this
  obtain ⟨g, cap, cur, e, rfl, hG, hh, hc, hm, hs, ht⟩ := h1.ints (by omega) h0
  have hvs : vs = #[.slice (some ⟨g, 0, none⟩) l.length cap] := by cases vs; simp_all
  subst hvs
  refine (Go.Proofs.Any.slices_Compact_int Ly g 0 cap l w (ints_holds (_cap := cap) hh ht) (by omega) hc).mono fun e' w' ⟨he', n, hw⟩ => ?_
  have hle : (Go.Lib.compact l).length ≤ l.length := by unfold Go.Lib.compact Go.Lib.compactUpTo; rw [List.length_map]; exact Nat.le_trans (List.length_filter_le _ _) (by simp)
  have hlen : (Go.Lib.compact l ++ List.replicate (l.length - (Go.Lib.compact l).length) 0).length = l.length := by simp; omega
  obtain ⟨k1, k2, k3, k4, k5, k6, k7⟩ := ints_put (l := l) (l' := Go.Lib.compact l ++ List.replicate (l.length - (Go.Lib.compact l).length) 0) (os := #[]) (t := 2) (by omega) hg hG hh hlen hc hm hs (w' := w') (n := n) (by rw [hw, Go.Sort.grow_empty])
  have k0 := k1 _ (Nat.le_refl _)
  have k9 := k1 (Go.Lib.compact l).length (by omega)
  rw [List.take_length, hlen] at k0
  rw [List.take_left] at k9
  refine ⟨_, _, _, G, he', ⟨rfl, _, rfl, ?_⟩, k9, .cons k0 (.nil _), k2, hnb, k3, k4, k5, k6, fun _ _ _ => rfl, k7⟩
  rw [ai_len, hlen]
end Go.AM

/-! ## WM -/
namespace Go.Proofs
open Go.Shelf
def Try.laysSort_ren : Go.Shelf.Ren := ⟨fun | 189 => 52 | 125 => 64 | 257 => 63 | 128 => 80 | 129 => 81 | 294 => 71 | 295 => 72 | 296 => 73 | 297 => 74 | 298 => 75 | 299 => 76 | 216 => 77 | 300 => 78 | 301 => 79 | 328 => 84 | 329 => 85 | 330 => 86 | 331 => 87 | 332 => 88 | 215 => 89 | 343 => 94 | n => n, fun | 28 => 33 | 3 => 3 | 46 => 96 | 0 => 0 | 51 => 104 | 53 => 107 | 4 => 4 | 183 => 115 | 182 => 114 | 131 => 120 | 5 => 5 | 9 => 9 | 218 => 125 | 222 => 129 | 228 => 135 | 229 => 136 | n => n, fun | n => n⟩
theorem Try.laysSort : Go.Proofs.Lays.n189 Try.prog Try.laysSort_ren where
  mixed := by kernel_rfl
  f125 := Try.func64.trans (congrArg some (by kernel_rfl))
  f128 := Try.func80.trans (congrArg some (by kernel_rfl))
  f129 := Try.func81.trans (congrArg some (by kernel_rfl))
  f189 := Try.func52.trans (congrArg some (by kernel_rfl))
  f215 := Try.func89.trans (congrArg some (by kernel_rfl))
  f216 := Try.func77.trans (congrArg some (by kernel_rfl))
  f257 := Try.func63.trans (congrArg some (by kernel_rfl))
  f294 := Try.func71.trans (congrArg some (by kernel_rfl))
  f295 := Try.func72.trans (congrArg some (by kernel_rfl))
  f296 := Try.func73.trans (congrArg some (by kernel_rfl))
  f297 := Try.func74.trans (congrArg some (by kernel_rfl))
  f298 := Try.func75.trans (congrArg some (by kernel_rfl))
  f299 := Try.func76.trans (congrArg some (by kernel_rfl))
  f300 := Try.func78.trans (congrArg some (by kernel_rfl))
  f301 := Try.func79.trans (congrArg some (by kernel_rfl))
  f328 := Try.func84.trans (congrArg some (by kernel_rfl))
  f329 := Try.func85.trans (congrArg some (by kernel_rfl))
  f330 := Try.func86.trans (congrArg some (by kernel_rfl))
  f331 := Try.func87.trans (congrArg some (by kernel_rfl))
  f332 := Try.func88.trans (congrArg some (by kernel_rfl))
  f343 := Try.func94.trans (congrArg some (by kernel_rfl))
  t0 := Try.underlying0
  a0 := Try.isAgg0
  z0 := Try.sizeOf0
  v0 := Try.zeroValue0
  t3 := Try.underlying3
  a3 := Try.isAgg3
  z3 := Try.sizeOf3
  v3 := Try.zeroValue3
  t4 := Try.underlying4
  a4 := Try.isAgg4
  z4 := Try.sizeOf4
  v4 := Try.zeroValue4
  t5 := Try.underlying5
  a5 := Try.isAgg5
  z5 := Try.sizeOf5
  v5 := Try.zeroValue5
  t9 := Try.underlying9
  a9 := Try.isAgg9
  z9 := Try.sizeOf9
  v9 := Try.zeroValue9
  t28 := Try.underlying33
  a28 := Try.isAgg33
  z28 := Try.sizeOf33
  v28 := Try.zeroValue33
  t46 := Try.underlying96
  a46 := Try.isAgg96
  z46 := Try.sizeOf96
  v46 := Try.zeroValue96
  t51 := Try.underlying104
  a51 := Try.isAgg104
  z51 := Try.sizeOf104
  v51 := Try.zeroValue104
  t53 := Try.underlying107
  a53 := Try.isAgg107
  z53 := Try.sizeOf107
  v53 := Try.zeroValue107
  t131 := Try.underlying120
  a131 := Try.isAgg120
  z131 := Try.sizeOf120
  v131 := Try.zeroValue120
  t182 := Try.underlying114
  a182 := Try.isAgg114
  z182 := Try.sizeOf114
  v182 := Try.zeroValue114
  t183 := Try.underlying115
  a183 := Try.isAgg115
  z183 := Try.sizeOf115
  v183 := Try.zeroValue115
  t218 := Try.underlying125
  a218 := Try.isAgg125
  z218 := Try.sizeOf125
  v218 := Try.zeroValue125
  t222 := Try.underlying129
  a222 := Try.isAgg129
  z222 := Try.sizeOf129
  v222 := Try.zeroValue129
  t228 := Try.underlying135
  a228 := Try.isAgg135
  z228 := Try.sizeOf135
  v228 := Try.zeroValue135
  t229 := Try.underlying136
  a229 := Try.isAgg136
  z229 := Try.sizeOf136
  v229 := Try.zeroValue136
end Go.Proofs
namespace Go.AM
open Go Go.Proofs Go.RowKit

theorem ai_vi (l : List Int) : ai l = l.map vi := rfl

theorem callable63 : Callable Try.prog 63 := ⟨_, Try.func63, by kernel_rfl, by kernel_rfl⟩
theorem callable64 : Callable Try.prog 64 := ⟨_, Try.func64, by kernel_rfl, by kernel_rfl⟩

theorem con_len2 (n : Nat) (hn : n < 4611686018427387904) : Con Try.prog 64 [.sc (.int .u64 n)] [] fun r _ => r = vi (Go.Sort.bitsLen n : Nat) := con_bitsLen Try.laysSort callable64 n hn
theorem conw_pdq2 (l : List Int) (h0 : 0 < l.length) (hl : l.length < 4611686018427387904) :
    ConW Try.prog 63 [.sl 2 1 (l.map vi), vi 0, vi l.length, vi (Go.Sort.bitsLen l.length : Nat)] fun r ys => r = .tup [] ∧ ys = [.sl 2 1 ((sortI l).map vi), vi 0, vi l.length, vi (Go.Sort.bitsLen l.length : Nat)] := conw_pdq Try.laysSort callable63 l h0 hl

set_option maxRecDepth 100000 in
theorem conw_sort52 (l : List Int) (h0 : 0 < l.length) (hl : l.length < 4611686018427387904) :
    ConW Try.prog 52 [.sl 2 1 (l.map vi)] fun r ys => r = .tup [] ∧ ys = [.sl 2 1 ((sortI l).map vi)] := by
  refine ConW.intro Try.func52 rfl Try.ntmps52 Try.results52 (by kernel_rfl) (by simp) ?_
  have w2 : IntKind.u64.wrap (l.length : Int) = l.length := by rw [IntKind.wrap_u64]; omega
  simp only [go_sem, w2]
  refine CallU.free (con_len2 l.length hl) (by simp only [go_sem]) (by simp only [go_sem]) ?_
  rintro r bx rfl
  simp only [go_sem]
  refine CallU.back (conw_pdq2 l h0 hl) (by simp only [go_sem]) (by simp only [go_sem]) ?_
  rintro r ys ⟨rfl, rfl⟩
  simp only [go_sem]
  simpa using h0
set_option maxRecDepth 100000 in
theorem conw_sort54 (l : List Int) (h0 : 0 < l.length) (hl : l.length < 4611686018427387904) :
    ConW Try.prog 54 [.sl 2 1 (l.map vi)] fun r ys => r = .tup [] ∧ ys = [.sl 2 1 ((sortI l).map vi)] := by
  refine ConW.intro Try.func54 rfl Try.ntmps54 Try.results54 (by kernel_rfl) (by simp) ?_
  have w2 : IntKind.u64.wrap (l.length : Int) = l.length := by rw [IntKind.wrap_u64]; omega
  simp only [go_sem, w2]
  refine CallU.free (con_len2 l.length hl) (by simp only [go_sem]) (by simp only [go_sem]) ?_
  rintro r bx rfl
  simp only [go_sem]
  refine CallU.back (conw_pdq2 l h0 hl) (by simp only [go_sem]) (by simp only [go_sem]) ?_
  rintro r ys ⟨rfl, rfl⟩
  simp only [go_sem]
  simpa using h0
end Go.AM

/-! ## WG -/
namespace Go.AM
open Go Go.Proofs Go.RowKit

/-- the variables of some arcs -/
def Bx (L : List (Int × Int)) : List (List AV) := L.map fun p => [vi p.1, vi p.2]
theorem Bx_len (L : List (Int × Int)) : (Bx L).length = L.length := by simp [Bx]
@[go_sem] theorem freeB_Bx {d : Nat} {L : List (Int × Int)} : freeB d (Bx L) = true := Ax_free L
@[go_sem] theorem leB_Bx {L : List (Int × Int)} : leB (Bx L) (Bx L) = True := eq_true (leB_refl _)
@[go_sem] theorem mapB_kill_Bx {t : Nat} {L : List (Int × Int)} : mapB (killLeaf t) (Bx L) = Bx L := Ax_map (fun _ => rfl) L
@[go_sem] theorem mapB_freeze_Bx {p : Nat → Bool} {L : List (Int × Int)} : mapB (freezeLeaf p) (Bx L) = Bx L := Ax_map (fun _ => rfl) L
@[go_sem] theorem mapB_give_Bx {ts : List Nat} {g : List Give} {L : List (Int × Int)} : mapB (giveLeaf ts g) (Bx L) = Bx L := Ax_map (fun _ => rfl) L
theorem Bx_new {L : List (Int × Int)} {n : Nat} (h : n = L.length) {x : List AV} : (Bx L ++ [x])[n]? = some x := by
  subst h
  rw [List.getElem?_append_right (by simp [Bx]), Bx_len, Nat.sub_self]; rfl
theorem Bx_snoc {L : List (Int × Int)} {n : Nat} (h : n = L.length) {x : List AV} {p : Int × Int} : (Bx L ++ [x]).set n [.sc (.int .i64 p.1), .sc (.int .i64 p.2)] = Bx (L ++ [p]) := by
  subst h
  rw [List.set_append_right _ _ (by simp [Bx]), Bx_len, Nat.sub_self]
  simp [Bx, vi]
theorem Bx_last {L : List (Int × Int)} {n : Nat} (h : n = L.length) {p : Int × Int} : (Bx (L ++ [p]))[n]? = some [.sc (.int .i64 p.1), .sc (.int .i64 p.2)] := by
  subst h
  simp [Bx, vi]

/-- where the arcs with a label lead -/
def outOf (lab : Int) (L : List (Int × Int)) : List Int := (L.filter fun p => p.1 == lab).map (·.2)
/-- the arcs of the first k states, and the first j of the next one -/
def visA (x : Sys) (s : List Int) (k : Nat) : List (Int × Int) := (s.take k).flatMap fun i => x[i.toNat]!
theorem visA_succ {x : Sys} {s : List Int} {k : Nat} (h : k < s.length) : visA x s (k + 1) = visA x s k ++ x[s[k]!.toNat]! := by
  unfold visA
  rw [List.take_add_one, List.flatMap_append, List.getElem?_eq_getElem h, ← getElem!_pos s k h]
  simp
theorem visA_le {x : Sys} {s : List Int} {B : Nat} (hx : ∀ l ∈ x, l.length ≤ B) : ∀ k, (visA x s k).length ≤ k * B
  | 0 => by simp [visA]
  | k + 1 => by
    by_cases h : k < s.length
    · rw [visA_succ h, List.length_append, Nat.succ_mul]
      have h1 := visA_le hx k (s := s)
      have h2 : x[s[k]!.toNat]!.length ≤ B := by
        by_cases h3 : s[k]!.toNat < x.length
        · exact hx _ (mem_bang h3)
        · rw [getElem!_neg x _ h3]; exact Nat.zero_le _
      omega
    · have e : visA x s (k + 1) = visA x s k := by unfold visA; rw [List.take_of_length_le (by omega), List.take_of_length_le (by omega)]
      rw [e, Nat.succ_mul]; have := visA_le hx k (s := s); omega
theorem outOf_le (lab : Int) (L : List (Int × Int)) : (outOf lab L).length ≤ L.length := by
  unfold outOf; rw [List.length_map]; exact List.length_filter_le _ _
theorem outOf_snoc (lab : Int) (L : List (Int × Int)) (p : Int × Int) : outOf lab (L ++ [p]) = outOf lab L ++ (if p.1 == lab then [p.2] else []) := by
  unfold outOf
  rw [List.filter_append, List.map_append]
  cases h : p.1 == lab <;> simp [h]
theorem take_snoc {α : Type} [Inhabited α] {l : List α} {j : Nat} (h : j < l.length) : l.take (j + 1) = l.take j ++ [l[j]!] := by
  rw [List.take_add_one, List.getElem?_eq_getElem h, ← getElem!_pos l j h]; rfl

set_option maxRecDepth 100000 in
theorem con_after1 (s : List Int) (x : Sys) (lab : Int) (hs : ∀ i ∈ s, 0 ≤ i ∧ i < x.length) (hsl : s.length ≤ 128) (hx : ∀ l ∈ x, l.length ≤ 1000000)
    (out : List Int) (hout : out = outOf lab (visA x s s.length)) (ho : out.length ≤ 3) (ha : Asc out) (ha1 : Apart1 out) :
    Con Try.prog 35 [vs 0 s, vy 0 x, vi lab] [] fun r _ => r = vs 0 out := by
  refine Con.intro Try.func35 rfl Try.ntmps35 Try.results35 (by kernel_rfl) (by simp) 0 (by simp) ?_
  simp only [go_sem]
  refine LoopK.intro (fun k : Nat => ⟨43, [(2, vi lab), (4, .pb 0 0), (7, .sl 2368 1 ((outOf lab (visA x s k)).map vi)), (12, .sl 0 1 (s.map vi)), (13, vi s.length), (14, vi k)], [.sl 0 1 (x.map (vl 0))] :: Bx (visA x s k)⟩)
    (fun k => s.length - k) (fun k => k ≤ s.length) 0 (by omega) ?_ ?_
  · simp only [go_sem, visA, List.take_zero, List.flatMap_nil]
    exact ⟨leV_nil _ _, leB_refl _⟩
  intro k hk
  by_cases h : k < s.length
  · have g1 := getv h
    obtain ⟨i, hi⟩ := Int.eq_ofNat_of_zero_le (hs _ (mem_bang h)).1
    have hi2 : i < x.length := by have := (hs _ (mem_bang h)).2; omega
    have hxl := hx _ (mem_bang hi2)
    have g2 := getvl hi2
    have hV : visA x s (k + 1) = visA x s k ++ x[i]! := by rw [visA_succ h, hi]; rfl
    have hw : IntKind.i64.wrap (k + 1) = k + 1 := wrap_in (by omega) (by omega)
    simp only [go_sem, h, g1, g2, hi, hi2]
    refine LoopK.intro (fun j : Nat => ⟨43, [(2, vi lab), (4, .pb 0 0), (7, .sl 2368 1 ((outOf lab (visA x s k ++ x[i]!.take j)).map vi)), (12, .sl 0 1 (s.map vi)), (13, vi s.length), (14, vi k), (22, .sl 0 2 (x[i]!.map va)), (23, vi x[i]!.length), (24, vi j)], [.sl 0 1 (x.map (vl 0))] :: Bx (visA x s k ++ x[i]!.take j)⟩)
      (fun j => x[i]!.length - j) (fun j => j ≤ x[i]!.length) 0 (by omega) ?_ ?_
    · simp only [go_sem, List.take_zero, List.append_nil]
    intro j hj
    by_cases hjl : j < x[i]!.length
    · have g3 := getva hjl
      have hwj : IntKind.i64.wrap (j + 1) = j + 1 := wrap_in (by omega) (by omega)
      have hBl := Bx_len (visA x s k ++ x[i]!.take j)
      have hBn := fun z => Bx_new (L := visA x s k ++ x[i]!.take j) rfl (x := z)
      have hBs := fun z => Bx_snoc (L := visA x s k ++ x[i]!.take j) rfl (x := z) (p := x[i]![j]!)
      have hBx := Bx_last (L := visA x s k ++ x[i]!.take j) rfl (p := x[i]![j]!)
      have hT : visA x s k ++ x[i]!.take (j + 1) = visA x s k ++ x[i]!.take j ++ [x[i]![j]!] := by rw [take_snoc hjl, List.append_assoc]
      by_cases hl : x[i]![j]!.1 = lab
      · have hl' : (x[i]![j]!.1 == lab) = true := by simpa using hl
        simp only [go_sem, hjl, g3, hBl, hBn, hBs, hBx, hl', hwj]
        have b1 := outOf_le lab (visA x s k ++ x[i]!.take j)
        have b2 := visA_le hx k (s := s)
        have b3 : k * 1000000 ≤ 128 * 1000000 := Nat.mul_le_mul_right _ (by omega)
        rw [List.length_append, List.length_take] at b1
        refine ⟨by simp only [roomFor]; omega, roundK.intro (j + 1) (by show j + 1 ≤ x[i]!.length; omega) (by show x[i]!.length - (j + 1) < x[i]!.length - j; omega) ?_⟩
        simp only [go_sem, hT, outOf_snoc, hl', List.map_append, List.map_cons, List.map_nil]
      · have hl' : (x[i]![j]!.1 == lab) = false := by simpa using hl
        simp only [go_sem, hjl, g3, hBl, hBn, hBs, hBx, hl', hwj]
        refine roundK.intro (j + 1) (by show j + 1 ≤ x[i]!.length; omega) (by show x[i]!.length - (j + 1) < x[i]!.length - j; omega) ?_
        simp only [go_sem, hT, outOf_snoc, hl', Bool.false_eq_true, if_false, List.append_nil]
    · have hje : j = x[i]!.length := by omega
      subst hje
      simp only [go_sem, hjl, List.take_length, hw]
      refine roundK.intro (k + 1) (by show k + 1 ≤ s.length; omega) (by show s.length - (k + 1) < s.length - k; omega) ?_
      simp only [go_sem, hV]
  · have hke : k = s.length := by omega
    subst hke
    simp only [go_sem, h, ← hout]
    refine CallU.flat (con_sort54 out ho ha) (by simp only [go_sem]) (by simp only [go_sem]) ?_
    rintro r bx rfl
    simp only [go_sem]
    refine CallU.freeze (con_compactS out (by omega) ha1) (by simp only [go_sem]) (by simp only [go_sem]) ?_
    rintro r bx rfl
    simp only [go_sem]
set_option maxRecDepth 100000 in
theorem con_labels1 (s : List Int) (x : Sys) (hs : ∀ i ∈ s, 0 ≤ i ∧ i < x.length) (hsl : s.length ≤ 128) (hx : ∀ l ∈ x, l.length ≤ 1000000)
    (out : List Int) (hout : out = (visA x s s.length).map (·.1)) (ho : out.length ≤ 3) (ha : Asc out) (ha1 : Apart1 out) :
    Con Try.prog 33 [vs 0 s, vy 0 x] [] fun r _ => r = vs 0 out := by
  refine Con.intro Try.func33 rfl Try.ntmps33 Try.results33 (by kernel_rfl) (by simp) 0 (by simp) ?_
  simp only [go_sem]
  refine LoopK.intro (fun k : Nat => ⟨37, [(3, .pb 0 0), (5, .sl 1984 1 (((visA x s k).map (·.1)).map vi)), (10, .sl 0 1 (s.map vi)), (11, vi s.length), (12, vi k)], [.sl 0 1 (x.map (vl 0))] :: Bx (visA x s k)⟩)
    (fun k => s.length - k) (fun k => k ≤ s.length) 0 (by omega) ?_ ?_
  · simp only [go_sem, visA, List.take_zero, List.flatMap_nil, List.map_nil]
    first | trivial | exact leB_refl _
  intro k hk
  by_cases h : k < s.length
  · have g1 := getv h
    obtain ⟨i, hi⟩ := Int.eq_ofNat_of_zero_le (hs _ (mem_bang h)).1
    have hi2 : i < x.length := by have := (hs _ (mem_bang h)).2; omega
    have hxl := hx _ (mem_bang hi2)
    have g2 := getvl hi2
    have hV : visA x s (k + 1) = visA x s k ++ x[i]! := by rw [visA_succ h, hi]; rfl
    have hw : IntKind.i64.wrap (k + 1) = k + 1 := wrap_in (by omega) (by omega)
    simp only [go_sem, h, g1, g2, hi, hi2]
    refine LoopK.intro (fun j : Nat => ⟨37, [(3, .pb 0 0), (5, .sl 1984 1 (((visA x s k ++ x[i]!.take j).map (·.1)).map vi)), (10, .sl 0 1 (s.map vi)), (11, vi s.length), (12, vi k), (20, .sl 0 2 (x[i]!.map va)), (21, vi x[i]!.length), (22, vi j)], [.sl 0 1 (x.map (vl 0))] :: Bx (visA x s k ++ x[i]!.take j)⟩)
      (fun j => x[i]!.length - j) (fun j => j ≤ x[i]!.length) 0 (by omega) ?_ ?_
    · simp only [go_sem, List.take_zero, List.append_nil]
    intro j hj
    by_cases hjl : j < x[i]!.length
    · have g3 := getva hjl
      have hwj : IntKind.i64.wrap (j + 1) = j + 1 := wrap_in (by omega) (by omega)
      have hBl := Bx_len (visA x s k ++ x[i]!.take j)
      have hBn := fun z => Bx_new (L := visA x s k ++ x[i]!.take j) rfl (x := z)
      have hBs := fun z => Bx_snoc (L := visA x s k ++ x[i]!.take j) rfl (x := z) (p := x[i]![j]!)
      have hBx := Bx_last (L := visA x s k ++ x[i]!.take j) rfl (p := x[i]![j]!)
      have hT : visA x s k ++ x[i]!.take (j + 1) = visA x s k ++ x[i]!.take j ++ [x[i]![j]!] := by rw [take_snoc hjl, List.append_assoc]
      simp only [go_sem, hjl, g3, hBl, hBn, hBs, hBx, hwj]
      have b1 : (visA x s k ++ x[i]!.take j).length = (visA x s k ++ x[i]!.take j).length := rfl
      have b2 := visA_le hx k (s := s)
      have b3 : k * 1000000 ≤ 128 * 1000000 := Nat.mul_le_mul_right _ (by omega)
      conv at b1 => rhs; rw [List.length_append, List.length_take]
      refine ⟨by simp only [roomFor]; omega, roundK.intro (j + 1) (by show j + 1 ≤ x[i]!.length; omega) (by show x[i]!.length - (j + 1) < x[i]!.length - j; omega) ?_⟩
      simp only [go_sem, hT, List.map_append, List.map_cons, List.map_nil]
    · have hje : j = x[i]!.length := by omega
      subst hje
      simp only [go_sem, hjl, List.take_length, hw]
      refine roundK.intro (k + 1) (by show k + 1 ≤ s.length; omega) (by show s.length - (k + 1) < s.length - k; omega) ?_
      simp only [go_sem, hV]
  · have hke : k = s.length := by omega
    subst hke
    simp only [go_sem, h, ← hout]
    refine CallU.flat (con_sort52 out ho ha) (by simp only [go_sem]) (by simp only [go_sem]) ?_
    rintro r bx rfl
    simp only [go_sem]
    refine CallU.freeze (con_compact out (by omega) ha1) (by simp only [go_sem]) (by simp only [go_sem]) ?_
    rintro r bx rfl
    simp only [go_sem]
end Go.AM

/-! ## WN -/
namespace Go.AM
open Go Go.Proofs Go.RowKit

/-- an element stays: it is the first, or differs from the one before it -/
def keepsL (l : List Int) (j : Nat) : Bool := decide (j = 0) || decide (l[j]! ≠ l[j - 1]!)
/-- what stays of the first m elements -/
def upTo (l : List Int) (m : Nat) : List Int := ((List.range m).filter (keepsL l)).map fun j => l[j]!
def uniq (l : List Int) : List Int := upTo l l.length
theorem upTo_succ (l : List Int) (m : Nat) : upTo l (m + 1) = upTo l m ++ (if keepsL l m = true then [l[m]!] else []) := by
  unfold upTo
  rw [List.range_succ, List.filter_append, List.map_append]
  cases h : keepsL l m <;> simp [h]
theorem upTo_all {l : List Int} : ∀ {m : Nat}, m ≤ l.length → (∀ j, j < m → keepsL l j = true) → upTo l m = l.take m
  | 0, _, _ => by simp [upTo]
  | m + 1, hm, h => by
    rw [upTo_succ, upTo_all (by omega) fun j hj => h j (by omega), h m (by omega), take_snoc (by omega)]; simp
theorem keeps_one {l : List Int} : ∀ j, j < 1 → keepsL l j = true := fun j hj => by
  have : j = 0 := by omega
  subst this; rfl
theorem modify_vi {Z : List Int} {q : Nat} {x : Int} : (List.map vi Z).modify q (updElem 0 [AV.sc (.int .i64 x)]) = List.map vi (Z.set q x) := by
  apply List.ext_getElem?
  intro j
  rw [List.getElem?_modify, List.getElem?_map, List.getElem?_map, List.getElem?_set]
  by_cases hq : q = j
  · subst hq
    by_cases hl : q < Z.length
    · simp [hl, vi, updElem]
    · simp [hl]
  · simp [hq]
theorem uniq_short {l : List Int} (h : l.length < 2) : uniq l = l := by
  match l, h with
  | [], _ => rfl
  | [x], _ => rfl

set_option maxRecDepth 100000 in
theorem conc_compact55 (l : List Int) (hl : l.length ≤ 1000000000000) : ConC Try.prog 55 [.sl 2 1 (l.map vi)] fun r => r = .sl 2 1 ((uniq l).map vi) := by
  refine ConC.intro Try.func55 rfl Try.ntmps55 Try.results55 (by kernel_rfl) (by simp) ?_
  by_cases h : (l.length : Int) < 2
  · have e := uniq_short (l := l) (by omega)
    simp only [go_sem, h, e]
  simp only [go_sem, h]
  refine LoopK.intro (fun k : Nat => ⟨61, [(0, .sl 2 1 (l.map vi)), (3, .sc (.int .i64 k))], []⟩) (fun k => l.length - k) (fun k => 1 ≤ k ∧ k ≤ l.length ∧ ∀ j, j < k → keepsL l j = true) 1 ⟨by omega, by omega, keeps_one⟩ ?_ ?_
  · simp only [go_sem]
  rintro k ⟨h1, h2, hall⟩
  by_cases hk : k < l.length
  case neg =>
    obtain rfl : k = l.length := by omega
    have e : uniq l = l := by unfold uniq; rw [upTo_all h2 hall, List.take_length]
    simp only [go_sem, hk, e]
  have hw : IntKind.i64.wrap (k + 1) = k + 1 := wrap_in (by omega) (by omega)
  have hw2 : IntKind.i64.wrap ((k : Int) - 1) = (k - 1 : Nat) := by rw [wrap_in (by omega) (by omega)]; omega
  have hk2 : k - 1 < l.length := by omega
  have g1 := getv hk
  have g2 := getv hk2
  by_cases hne : l[k]! = l[k - 1]!
  case neg =>
    have hne' : (l[k]! == l[k - 1]!) = false := by simpa using hne
    simp only [go_sem, hk]
    refine DrawK.walk 10 mixed (by kernel_rfl) ?_
    simp only [go_sem, hk, g1, g2, hw2, hk2, hne', hw]
    refine roundK.intro (k + 1) ⟨by omega, by omega, fun j hj => ?_⟩ (by omega) ?_
    · by_cases hjk : j = k
      · subst hjk; unfold keepsL; rw [decide_eq_true (p := l[j]! ≠ l[j - 1]!) hne, Bool.or_true]
      · exact hall j (by omega)
    · simp only [go_sem]
  have hne' : (l[k]! == l[k - 1]!) = true := by simpa using hne
  simp only [go_sem, hk]
  refine DrawK.walk 10 mixed (by kernel_rfl) ?_
  simp only [go_sem, hk, g1, g2, hw2, hk2, hne']
  have e0 : upTo l (k + 1) = l.take k := by
    have h0 : keepsL l k = false := by unfold keepsL; rw [decide_eq_false (p := l[k]! ≠ l[k - 1]!) (by simpa using hne), decide_eq_false (by omega)]; rfl
    rw [upTo_succ, h0, upTo_all h2 hall]; simp
  refine LoopK.intro (fun p : List Int × Nat × Nat => ⟨61, [(0, .sl 2 1 (p.1.map vi)), (3, .sc (.int .i64 p.2.1)), (4, .tl 2 1 (p.1.map vi) k), (5, .sc (.int .i64 p.2.2))], []⟩) (fun p => l.length - (k + p.2.2))
    (fun p => p.1.length = l.length ∧ 1 ≤ p.2.2 ∧ k + p.2.2 ≤ l.length ∧ p.2.1 < k + p.2.2 ∧ p.1.take p.2.1 = upTo l (k + p.2.2) ∧ ∀ j, p.2.1 ≤ j → p.1[j]! = l[j]!) (l, k, 1) ⟨rfl, Nat.le_refl 1, by show k + 1 ≤ l.length; omega, by show k < k + 1; omega, e0.symm, fun _ _ => rfl⟩ ?_ ?_
  · simp only [go_sem]
  rintro ⟨Z, q, m⟩ ⟨c1, c2, c3, c4, c5, c6⟩
  simp only at c1 c2 c3 c4 c5 c6
  have hql : q < Z.length := by omega
  by_cases hm : k + m < l.length
  case neg =>
    obtain hme : m = l.length - k := by omega
    have hm1 : ¬ ((m : Int) < ((Z.length - k : Nat) : Int)) := by omega
    have e : (setSeg (Z.map vi) q (List.replicate (Z.length - q) (AV.sc (.int .i64 0)))).take q = (uniq l).map vi := by
      rw [setSeg_take, setSeg_out _ _ _ (by simp; omega), ← List.map_take, c5]
      unfold uniq; rw [show k + m = l.length by omega]
    simp only [go_sem, hm1, hql]
    exact ⟨by rw [setSeg_length, List.length_map]; omega, by rw [e]⟩
  have hm1 : (m : Int) < ((Z.length - k : Nat) : Int) := by omega
  have hz1 : k + m < Z.length := by omega
  have hz2 : k + (m - 1) < Z.length := by omega
  have gz1 := getv hz1
  have gz2 := getv hz2
  have hwm : IntKind.i64.wrap (m + 1) = m + 1 := wrap_in (by omega) (by omega)
  have hwm2 : IntKind.i64.wrap ((m : Int) - 1) = (m - 1 : Nat) := by rw [wrap_in (by omega) (by omega)]; omega
  have hwq : IntKind.i64.wrap (q + 1) = q + 1 := wrap_in (by omega) (by omega)
  have ez1 : Z[k + m]! = l[k + m]! := c6 _ (by omega)
  have ez2 : Z[k + (m - 1)]! = l[k + m - 1]! := by rw [c6 _ (by omega)]; congr 1; omega
  have hsucc : k + (m + 1) = (k + m) + 1 := by omega
  by_cases hne2 : l[k + m]! = l[k + m - 1]!
  · have hb : (Z[k + m]! != Z[k + (m - 1)]!) = false := by rw [ez1, ez2]; simpa using hne2
    simp only [go_sem, hm1]
    refine DrawK.walk 10 mixed (by kernel_rfl) ?_
    simp only [go_sem, gz1, gz2, hwm2, hb, hwm]
    have hk0 : keepsL l (k + m) = false := by unfold keepsL; rw [decide_eq_false (p := l[k + m]! ≠ l[k + m - 1]!) (by simpa using hne2), decide_eq_false (by omega)]; rfl
    refine ⟨by omega, by omega, roundK.intro (Z, q, m + 1) ⟨c1, by show 1 ≤ m + 1; omega, by show k + (m + 1) ≤ l.length; omega, by show q < k + (m + 1); omega, ?_, c6⟩ (by show l.length - (k + (m + 1)) < l.length - (k + m); omega) ?_⟩
    · show Z.take q = upTo l (k + (m + 1))
      rw [hsucc, upTo_succ, hk0, c5]; simp
    · simp only [go_sem]
  · have hb : (Z[k + m]! != Z[k + (m - 1)]!) = true := by rw [ez1, ez2]; simpa using hne2
    simp only [go_sem, hm1]
    refine DrawK.walk 10 mixed (by kernel_rfl) ?_
    simp only [go_sem, gz1, gz2, hwm2, hb, hwm, hql, hwq]
    have hk0 : keepsL l (k + m) = true := by unfold keepsL; rw [decide_eq_true (p := l[k + m]! ≠ l[k + m - 1]!) hne2, Bool.or_true]
    refine ⟨by omega, by omega, by omega, roundK.intro (Z.set q Z[k + m]!, q + 1, m + 1) ⟨by show (Z.set q Z[k + m]!).length = l.length; rw [List.length_set]; exact c1, by show 1 ≤ m + 1; omega, by show k + (m + 1) ≤ l.length; omega, by show q + 1 < k + (m + 1); omega, ?_, fun j hj => ?_⟩ (by show l.length - (k + (m + 1)) < l.length - (k + m); omega) ?_⟩
    · show (Z.set q Z[k + m]!).take (q + 1) = upTo l (k + (m + 1))
      rw [hsucc, upTo_succ, hk0, ← c5, ez1, take_snoc (by rw [List.length_set]; exact hql)]
      rw [if_pos rfl, List.take_set_of_le (Nat.le_refl q), getElem!_pos (Z.set q l[k + m]!) q (by rw [List.length_set]; exact hql), List.getElem_set_self]
    · show (Z.set q Z[k + m]!)[j]! = l[j]!
      have hj' : q + 1 ≤ j := hj
      rw [← c6 j (by omega)]
      simp only [getElem!_def, List.getElem?_set_ne (show q ≠ j by omega)]
    · simp only [go_sem, modify_vi]
set_option maxRecDepth 100000 in
theorem conc_compact53 (l : List Int) (hl : l.length ≤ 1000000000000) : ConC Try.prog 53 [.sl 2 1 (l.map vi)] fun r => r = .sl 2 1 ((uniq l).map vi) := by
  refine ConC.intro Try.func53 rfl Try.ntmps53 Try.results53 (by kernel_rfl) (by simp) ?_
  by_cases h : (l.length : Int) < 2
  · have e := uniq_short (l := l) (by omega)
    simp only [go_sem, h, e]
  simp only [go_sem, h]
  refine LoopK.intro (fun k : Nat => ⟨61, [(0, .sl 2 1 (l.map vi)), (3, .sc (.int .i64 k))], []⟩) (fun k => l.length - k) (fun k => 1 ≤ k ∧ k ≤ l.length ∧ ∀ j, j < k → keepsL l j = true) 1 ⟨by omega, by omega, keeps_one⟩ ?_ ?_
  · simp only [go_sem]
  rintro k ⟨h1, h2, hall⟩
  by_cases hk : k < l.length
  case neg =>
    obtain rfl : k = l.length := by omega
    have e : uniq l = l := by unfold uniq; rw [upTo_all h2 hall, List.take_length]
    simp only [go_sem, hk, e]
  have hw : IntKind.i64.wrap (k + 1) = k + 1 := wrap_in (by omega) (by omega)
  have hw2 : IntKind.i64.wrap ((k : Int) - 1) = (k - 1 : Nat) := by rw [wrap_in (by omega) (by omega)]; omega
  have hk2 : k - 1 < l.length := by omega
  have g1 := getv hk
  have g2 := getv hk2
  by_cases hne : l[k]! = l[k - 1]!
  case neg =>
    have hne' : (l[k]! == l[k - 1]!) = false := by simpa using hne
    simp only [go_sem, hk]
    refine DrawK.walk 10 mixed (by kernel_rfl) ?_
    simp only [go_sem, hk, g1, g2, hw2, hk2, hne', hw]
    refine roundK.intro (k + 1) ⟨by omega, by omega, fun j hj => ?_⟩ (by omega) ?_
    · by_cases hjk : j = k
      · subst hjk; unfold keepsL; rw [decide_eq_true (p := l[j]! ≠ l[j - 1]!) hne, Bool.or_true]
      · exact hall j (by omega)
    · simp only [go_sem]
  have hne' : (l[k]! == l[k - 1]!) = true := by simpa using hne
  simp only [go_sem, hk]
  refine DrawK.walk 10 mixed (by kernel_rfl) ?_
  simp only [go_sem, hk, g1, g2, hw2, hk2, hne']
  have e0 : upTo l (k + 1) = l.take k := by
    have h0 : keepsL l k = false := by unfold keepsL; rw [decide_eq_false (p := l[k]! ≠ l[k - 1]!) (by simpa using hne), decide_eq_false (by omega)]; rfl
    rw [upTo_succ, h0, upTo_all h2 hall]; simp
  refine LoopK.intro (fun p : List Int × Nat × Nat => ⟨61, [(0, .sl 2 1 (p.1.map vi)), (3, .sc (.int .i64 p.2.1)), (4, .tl 2 1 (p.1.map vi) k), (5, .sc (.int .i64 p.2.2))], []⟩) (fun p => l.length - (k + p.2.2))
    (fun p => p.1.length = l.length ∧ 1 ≤ p.2.2 ∧ k + p.2.2 ≤ l.length ∧ p.2.1 < k + p.2.2 ∧ p.1.take p.2.1 = upTo l (k + p.2.2) ∧ ∀ j, p.2.1 ≤ j → p.1[j]! = l[j]!) (l, k, 1) ⟨rfl, Nat.le_refl 1, by show k + 1 ≤ l.length; omega, by show k < k + 1; omega, e0.symm, fun _ _ => rfl⟩ ?_ ?_
  · simp only [go_sem]
  rintro ⟨Z, q, m⟩ ⟨c1, c2, c3, c4, c5, c6⟩
  simp only at c1 c2 c3 c4 c5 c6
  have hql : q < Z.length := by omega
  by_cases hm : k + m < l.length
  case neg =>
    obtain hme : m = l.length - k := by omega
    have hm1 : ¬ ((m : Int) < ((Z.length - k : Nat) : Int)) := by omega
    have e : (setSeg (Z.map vi) q (List.replicate (Z.length - q) (AV.sc (.int .i64 0)))).take q = (uniq l).map vi := by
      rw [setSeg_take, setSeg_out _ _ _ (by simp; omega), ← List.map_take, c5]
      unfold uniq; rw [show k + m = l.length by omega]
    simp only [go_sem, hm1, hql]
    exact ⟨by rw [setSeg_length, List.length_map]; omega, by rw [e]⟩
  have hm1 : (m : Int) < ((Z.length - k : Nat) : Int) := by omega
  have hz1 : k + m < Z.length := by omega
  have hz2 : k + (m - 1) < Z.length := by omega
  have gz1 := getv hz1
  have gz2 := getv hz2
  have hwm : IntKind.i64.wrap (m + 1) = m + 1 := wrap_in (by omega) (by omega)
  have hwm2 : IntKind.i64.wrap ((m : Int) - 1) = (m - 1 : Nat) := by rw [wrap_in (by omega) (by omega)]; omega
  have hwq : IntKind.i64.wrap (q + 1) = q + 1 := wrap_in (by omega) (by omega)
  have ez1 : Z[k + m]! = l[k + m]! := c6 _ (by omega)
  have ez2 : Z[k + (m - 1)]! = l[k + m - 1]! := by rw [c6 _ (by omega)]; congr 1; omega
  have hsucc : k + (m + 1) = (k + m) + 1 := by omega
  by_cases hne2 : l[k + m]! = l[k + m - 1]!
  · have hb : (Z[k + m]! != Z[k + (m - 1)]!) = false := by rw [ez1, ez2]; simpa using hne2
    simp only [go_sem, hm1]
    refine DrawK.walk 10 mixed (by kernel_rfl) ?_
    simp only [go_sem, gz1, gz2, hwm2, hb, hwm]
    have hk0 : keepsL l (k + m) = false := by unfold keepsL; rw [decide_eq_false (p := l[k + m]! ≠ l[k + m - 1]!) (by simpa using hne2), decide_eq_false (by omega)]; rfl
    refine ⟨by omega, by omega, roundK.intro (Z, q, m + 1) ⟨c1, by show 1 ≤ m + 1; omega, by show k + (m + 1) ≤ l.length; omega, by show q < k + (m + 1); omega, ?_, c6⟩ (by show l.length - (k + (m + 1)) < l.length - (k + m); omega) ?_⟩
    · show Z.take q = upTo l (k + (m + 1))
      rw [hsucc, upTo_succ, hk0, c5]; simp
    · simp only [go_sem]
  · have hb : (Z[k + m]! != Z[k + (m - 1)]!) = true := by rw [ez1, ez2]; simpa using hne2
    simp only [go_sem, hm1]
    refine DrawK.walk 10 mixed (by kernel_rfl) ?_
    simp only [go_sem, gz1, gz2, hwm2, hb, hwm, hql, hwq]
    have hk0 : keepsL l (k + m) = true := by unfold keepsL; rw [decide_eq_true (p := l[k + m]! ≠ l[k + m - 1]!) hne2, Bool.or_true]
    refine ⟨by omega, by omega, by omega, roundK.intro (Z.set q Z[k + m]!, q + 1, m + 1) ⟨by show (Z.set q Z[k + m]!).length = l.length; rw [List.length_set]; exact c1, by show 1 ≤ m + 1; omega, by show k + (m + 1) ≤ l.length; omega, by show q + 1 < k + (m + 1); omega, ?_, fun j hj => ?_⟩ (by show l.length - (k + (m + 1)) < l.length - (k + m); omega) ?_⟩
    · show (Z.set q Z[k + m]!).take (q + 1) = upTo l (k + (m + 1))
      rw [hsucc, upTo_succ, hk0, ← c5, ez1, take_snoc (by rw [List.length_set]; exact hql)]
      rw [if_pos rfl, List.take_set_of_le (Nat.le_refl q), getElem!_pos (Z.set q l[k + m]!) q (by rw [List.length_set]; exact hql), List.getElem_set_self]
    · show (Z.set q Z[k + m]!)[j]! = l[j]!
      have hj' : q + 1 ≤ j := hj
      rw [← c6 j (by omega)]
      simp only [getElem!_def, List.getElem?_set_ne (show q ≠ j by omega)]
    · simp only [go_sem, modify_vi]
end Go.AM

/-! ## WH -/
namespace Go.AM
open Go Go.Proofs Go.RowKit

/-- the bytes of a pair -/
def keyB (a b : List Int) : List Int := a ++ 128 :: b
def pairA (w : AV) (a b : List Int) : AV := .ag [w, vs 0 a, vs 0 b]
attribute [go_sem] pairA
theorem bytesOf_vu : ∀ l : List Int, bytesOf (l.map vu) = some l
  | [] => rfl
  | x :: l => by simp [bytesOf, vu, ← bytesOf_vu l]

/-- a contract serves wherever what its arguments stand for is known of the values -/
theorem Con.args {P : Program} {f : FuncId} {args args' : List AV} {bx : List (List AV)} {post : AV → List (List AV) → Prop} (h : Con P f args bx post)
    (ha : ∀ (G : Nat → Status) (w : World) (vs : List Value), PW (VRel G w) args' vs → PW (VRel G w) args vs) : Con P f args' bx post :=
  ⟨h.1, fun G w vs h1 h2 h3 h4 h5 => h.2 G w vs h1 h2 h3 h4 (ha G w _ h5)⟩

set_option maxRecDepth 100000 in
theorem con_key0 (a b : List Int) (ha : ∀ i ∈ a, 0 ≤ i ∧ i < 128) (hb : ∀ i ∈ b, 0 ≤ i ∧ i < 128) (hal : a.length ≤ 128) (hbl : b.length ≤ 128) :
    Con Try.prog 32 [pairA .any a b] [] fun r _ => r = .sc (.string (strOf (keyB a b))) := by
  refine Con.intro Try.func32 rfl Try.ntmps32 Try.results32 (by kernel_rfl) (by simp) 0 (by simp) ?_
  simp only [go_sem]
  refine LoopK.intro (fun k : Nat => ⟨39, [(1, .pb 0 0), (3, .sl 1280 1 ((a.take k).map vu)), (9, .sl 0 1 (a.map vi)), (10, vi a.length), (11, vi k)], [[.any, .sl 0 1 (a.map vi), .sl 0 1 (b.map vi)]]⟩)
    (fun k => a.length - k) (fun k => k ≤ a.length) 0 (by omega) ?_ ?_
  · simp only [go_sem, List.take_zero]
  intro k hk
  by_cases h : k < a.length
  · have g1 := getv h
    have hw : IntKind.i64.wrap (k + 1) = k + 1 := wrap_in (by omega) (by omega)
    have h8 : IntKind.u8.wrap a[k]! = a[k]! := by have := ha _ (mem_bang h); rw [IntKind.wrap_u8]; omega
    simp only [go_sem, h, g1, hw, h8]
    refine ⟨by simp only [roomFor, List.length_take]; omega, roundK.intro (k + 1) (by show k + 1 ≤ a.length; omega) (by show a.length - (k + 1) < a.length - k; omega) ?_⟩
    simp only [go_sem, take_snoc h, List.map_append, List.map_cons, List.map_nil, vu]
  · have hke : k = a.length := by omega
    subst hke
    simp only [go_sem, h, List.take_length]
    refine ⟨by simp only [roomFor]; omega, ?_⟩
    refine LoopK.intro (fun k : Nat => ⟨39, [(1, .pb 0 0), (3, .sl 1280 1 ((a ++ 128 :: b.take k).map vu)), (25, .sl 0 1 (b.map vi)), (26, vi b.length), (27, vi k)], [[.any, .sl 0 1 (a.map vi), .sl 0 1 (b.map vi)]]⟩)
      (fun k => b.length - k) (fun k => k ≤ b.length) 0 (by omega) ?_ ?_
    · simp only [go_sem, List.take_zero, List.map_append, List.map_cons, List.map_nil, vu]
    intro k hk
    by_cases h : k < b.length
    · have g1 := getv h
      have hw : IntKind.i64.wrap (k + 1) = k + 1 := wrap_in (by omega) (by omega)
      have h8 : IntKind.u8.wrap b[k]! = b[k]! := by have := hb _ (mem_bang h); rw [IntKind.wrap_u8]; omega
      simp only [go_sem, h, g1, hw, h8]
      refine ⟨by simp only [roomFor, List.length_append, List.length_cons, List.length_take]; omega, roundK.intro (k + 1) (by show k + 1 ≤ b.length; omega) (by show b.length - (k + 1) < b.length - k; omega) ?_⟩
      simp only [go_sem, take_snoc h, List.map_append, List.map_cons, List.map_nil, vu, List.append_assoc, List.cons_append]
    · have hke : k = b.length := by omega
      subst hke
      have hbo := bytesOf_vu (a ++ 128 :: b)
      simp only [go_sem, h, List.take_length, hbo]
      refine ⟨by simp, ?_⟩
      rfl

theorem con_key (w : AV) (a b : List Int) (ha : ∀ i ∈ a, 0 ≤ i ∧ i < 128) (hb : ∀ i ∈ b, 0 ≤ i ∧ i < 128) (hal : a.length ≤ 128) (hbl : b.length ≤ 128) :
    Con Try.prog 32 [pairA w a b] [] fun r _ => r = .sc (.string (strOf (keyB a b))) :=
  (con_key0 a b ha hb hal hbl).args fun G w vs hv => by
    obtain ⟨v, vr, rfl, h1, h2⟩ := hv.cons_inv
    obtain ⟨us, rfl, h3, h4⟩ := h1.ag_inv
    refine .cons (.ag _ us ?_ h3 fun j x u hx hu => ?_) h2
    · have := h4.1; simpa using this
    · cases j with
      | zero => simp at hx; subst hx; exact .froz (.any _)
      | succ j => exact h4.2 (j + 1) x u (by simpa using hx) hu
end Go.AM

/-! ## WI -/
namespace Go.AM
open Go Go.Proofs Go.RowKit

/-- the example's system -/
def oneS : Sys := [[(1, 1)], []]

theorem con_clipNil : Con Try.prog 34 [.nil] [] fun r _ => r = .sl 1 1 [] :=
  (con_clip [] (by decide)).args fun G w vs hv => by
    obtain ⟨v, vr, rfl, h1, h2⟩ := hv.cons_inv
    exact .cons (h1.le (leV_nil 0 1)) h2



set_option maxRecDepth 100000 in
theorem con_trace1 : Con Try.prog 13 [vy 0 allS, vy 0 oneS, vi 3] [] fun r _ => r = .tup [vs 0 [0], .sc (.bool true), vi 0] := by
  refine Con.intro Try.func13 rfl Try.ntmps13 Try.results13 (by kernel_rfl) (by simp) 0 (by simp) ?_
  have hlen : ∀ s : Sys, (∀ l ∈ s, l.length ≤ 3) → ∀ l ∈ s, l.length ≤ 281474976710656 := fun s h l hl => Nat.le_trans (h l hl) (by decide)
  have h1 : ∀ l ∈ allS, l.length ≤ 3 := by decide
  have h2 : ∀ l ∈ oneS, l.length ≤ 3 := by decide
  have hb : bothS allS oneS = 0 := by decide
  simp only [go_sem]
  refine CallU.free (con_both allS oneS (hlen _ h1) (by decide) (hlen _ h2) (by decide)) (by simp only [go_sem]) (by simp only [go_sem]) ?_
  rintro r bx rfl
  simp only [go_sem, hb]
  refine CallU.flat (con_key .nil [0] [0] (by decide) (by decide) (by decide) (by decide)) (by simp only [go_sem]) (by simp only [go_sem]) ?_
  rintro r bx rfl
  simp only [go_sem]
  refine evMapPut_str Try.underlying69 Try.underlying9 Try.underlying4 (by decide +kernel) (by decide) ?_
  simp only [go_sem]
  generalize hD : (DataW.map ([] : List (Lit × DataW Unit))).put (Lit.string (strOf (keyB [0] [0])).data.toList) (DataW.lit (Lit.bool true)) = D
  refine LoopK.intro (fun _ : Unit => ⟨98, [(2, vi 3), (3, .pb 0 0), (4, .pb 1 0), (11, .mp 2112 Try.prog 9 4 D), (12, .sl 2432 3 [.ag [.nil, .sl 0 1 [vi 0], .sl 0 1 [vi 0]]])], [[.sl 0 1 (allS.map (vl 0))], [.sl 0 1 (oneS.map (vl 0))], [.any, .any, .any]]⟩)
    (fun _ => 0) (fun _ => True) () trivial ?_ ?_
  · simp only [go_sem]
  rintro ⟨⟩ -
  simp only [go_sem]
  have asc3 : Asc [0, 1, 2] := fun k h1 h2 => by
    have : k = 1 ∨ k = 2 := by simp at h2; omega
    rcases this with rfl | rfl <;> decide
  have ap3 : Apart1 [0, 1, 2] := fun k h1 h2 => by
    have : k = 1 ∨ k = 2 := by simp at h2; omega
    rcases this with rfl | rfl <;> decide
  have asc1 : Asc [0] := fun k h1 h2 => by simp at h2; omega
  have ap1 : Apart1 [0] := fun k h1 h2 => by simp at h2; omega
  have asc0 : Asc [] := fun k h1 h2 => by simp at h2
  have ap0 : Apart1 [] := fun k h1 h2 => by simp at h2
  refine CallU.free (con_labels1 [0] allS (by decide) (by decide) (by decide) [0, 1, 2] (by decide) (by decide) asc3 ap3) (by simp only [go_sem]) (by simp only [go_sem]) ?_
  rintro r bx rfl
  simp only [go_sem]
  refine LoopK.intro (fun _ : Unit => ⟨98, [(2, vi 3), (3, .pb 0 0), (4, .pb 1 0), (11, .mp 2112 Try.prog 9 4 D), (12, .sl 2432 3 [.ag [.nil, .sl 0 1 [vi 0], .sl 0 1 [vi 0]]]), (13, .pb 3 0), (54, vs 0 [0, 1, 2]), (55, vi 3), (56, vi 0)], [[.sl 0 1 (allS.map (vl 0))], [.sl 0 1 (oneS.map (vl 0))], [.any, .any, .any], [.nil, .sl 0 1 [vi 0], .sl 0 1 [vi 0]]]⟩)
    (fun _ => 0) (fun _ => True) () trivial ?_ ?_
  · simp only [go_sem]
  rintro ⟨⟩ -
  simp only [go_sem]
  refine DrawK.walk 18 mixed (by kernel_rfl) ?_
  simp only [go_sem]
  refine CallY.mk con_clipNil (by simp only [go_sem]) (by simp only [go_sem]) (.inl rfl) ?_
  simp only [go_sem]
  refine ⟨by unfold roomFor; decide, CallY.mk (con_after1 [0] allS 0 (by decide) (by decide) (by decide) [0] (by decide) (by decide) asc1 ap1) (by simp only [go_sem]) (by simp only [go_sem]) (.inl (by simp only [go_sem])) ?_⟩
  simp only [go_sem]
  refine CallY.mk (con_after1 [0] oneS 0 (by decide) (by decide) (by decide) [] (by decide) (by decide) asc0 ap0) (by simp only [go_sem]) (by simp only [go_sem]) (.inl (by simp only [go_sem])) ?_
  simp only [go_sem]

def accS (A : Nat → List Int) (k : Nat) : AV := if k = 0 then .sl 768 1 [vi 0] else vs 0 (A k)
set_option maxRecDepth 100000 in
theorem con_accepts (s : Sys) (word : List Int) (A : Nat → List Int) (hs : checkS s = 0) (hl : ∀ l ∈ s, l.length ≤ 281474976710656) (hw : word.length ≤ 1000000) (h0 : A 0 = [0])
    (hA : ∀ k, k < word.length → Con Try.prog 35 [vs 0 (A k), vy 0 s, vi word[k]!] [] fun r _ => r = vs 0 (A (k + 1))) :
    Con Try.prog 14 [vy 0 s, vs 0 word] [] fun r _ => r = .sc (.bool (decide (0 < (A word.length).length))) := by
  refine Con.intro Try.func14 rfl Try.ntmps14 Try.results14 (by kernel_rfl) (by simp) 0 (by simp) ?_
  have hsl := (checkS_ok hs).2.1
  simp only [go_sem]
  refine CallU.free (con_check s hl (by omega)) (by simp only [go_sem]) (by simp only [go_sem]) ?_
  rintro r bx rfl
  simp only [go_sem, hs]
  refine LoopK.intro (fun k : Nat => ⟨26, [(2, .pb 0 0), (5, accS A k), (12, vs 0 word), (13, vi word.length), (14, vi k)], [[.sl 0 1 (s.map (vl 0))]]⟩)
    (fun k => word.length - k) (fun k => k ≤ word.length) 0 (by omega) ?_ ?_
  · simp only [go_sem, accS, if_true]
  intro k hk
  by_cases h : k < word.length
  · have g1 := getv h
    have hw : IntKind.i64.wrap (k + 1) = k + 1 := wrap_in (by omega) (by omega)
    have e1 : accS A (k + 1) = vs 0 (A (k + 1)) := by simp [accS]
    by_cases h3 : k = 0
    · subst h3
      have hA0 := hA 0 h
      rw [h0] at hA0
      simp only [go_sem, h, g1, accS, if_true]
      refine CallU.freeze hA0 (by simp only [go_sem]) (by simp only [go_sem]) ?_
      rintro r bx rfl
      simp only [go_sem]
      refine roundK.intro 1 (by show 1 ≤ word.length; omega) (by show word.length - 1 < word.length - 0; omega) ?_
      have hw1 : IntKind.i64.wrap 1 = 1 := by decide
      simp only [go_sem, e1, hw1]
    · have e0 : accS A k = vs 0 (A k) := by simp [accS, h3]
      simp only [go_sem, h, g1, e0]
      refine CallU.free (hA k h) (by simp only [go_sem]) (by simp only [go_sem]) ?_
      rintro r bx rfl
      simp only [go_sem, hw]
      refine roundK.intro (k + 1) (by show k + 1 ≤ word.length; omega) (by show word.length - (k + 1) < word.length - k; omega) ?_
      simp only [go_sem, e1]
  · have hke : k = word.length := by omega
    subst hke
    by_cases h3 : word.length = 0
    · simp only [go_sem, h3, accS, if_true, h0]
    · have e0 : accS A word.length = vs 0 (A word.length) := by simp [accS, h3]
      simp only [go_sem, h, e0]

theorem asc_short {l : List Int} (h : l.length ≤ 1) : Asc l ∧ Apart1 l := ⟨fun k h1 h2 => by omega, fun k h1 h2 => by omega⟩
theorem con_acc1 : Con Try.prog 14 [vy 0 oneS, vs 0 [1]] [] fun r _ => r = .sc (.bool true) :=
  con_accepts oneS [1] (fun k => if k = 0 then [0] else [1]) (by decide) (by decide) (by decide) rfl fun k hk => by
    have : k = 0 := by simp at hk; omega
    subst this
    exact con_after1 [0] oneS 1 (by decide) (by decide) (by decide) [1] (by decide) (by decide) (asc_short (by decide)).1 (asc_short (by decide)).2
theorem con_acc2 : Con Try.prog 14 [vy 0 oneS, vs 0 [1, 1]] [] fun r _ => r = .sc (.bool false) :=
  con_accepts oneS [1, 1] (fun k => if k = 0 then [0] else if k = 1 then [1] else []) (by decide) (by decide) (by decide) rfl fun k hk => by
    have : k = 0 ∨ k = 1 := by simp at hk; omega
    rcases this with rfl | rfl
    · exact con_after1 [0] oneS 1 (by decide) (by decide) (by decide) [1] (by decide) (by decide) (asc_short (by decide)).1 (asc_short (by decide)).2
    · exact con_after1 [1] oneS 1 (by decide) (by decide) (by decide) [] (by decide) (by decide) (asc_short (by decide)).1 (asc_short (by decide)).2

theorem sim_oneall : simV oneS allS = true := by
  obtain ⟨R, hR⟩ := exists_greatest oneS allS
  have h : Sim00 oneS allS (rel R 0 0) := ⟨R, hR, rfl⟩
  rw [← h.eq (checkS_inside (by decide)) (checkS_inside all_check) (by decide) (by decide)]
  refine hR.greatest (S := fun _ _ => True) (checkS_inside (by decide)) (checkS_inside all_check) (fun x y hx hy _ p hp => ?_) (by decide) (by decide) trivial
  have hx2 : x = 0 ∨ x = 1 := by have : oneS.length = 2 := rfl; omega
  have hy2 : y = 0 := by have : allS.length = 1 := rfl; omega
  subst hy2
  rcases hx2 with rfl | rfl
  · have : p = (1, 1) := by simpa [oneS] using hp
    subst this
    exact ⟨(1, 0), by simp [allS], rfl, trivial⟩
  · simp [oneS] at hp
theorem sim_allone : simV allS oneS = false := by
  obtain ⟨R, hR⟩ := exists_greatest allS oneS
  have h : Sim00 allS oneS (rel R 0 0) := ⟨R, hR, rfl⟩
  rw [← h.eq (checkS_inside all_check) (checkS_inside (by decide)) (by decide) (by decide)]
  cases hc : rel R 0 0
  · rfl
  · obtain ⟨q, hq, h1, _⟩ := hR.sim 0 0 (by decide) (by decide) hc (0, 0) (by simp [allS])
    have : q = (1, 1) := by simpa [oneS] using hq
    subst this
    simp at h1
end Go.AM

/-! ## WO -/
namespace Go.AM
open Go Go.Proofs Go.RowKit

theorem sortI_nil : sortI [] = [] := by simp [sortI]

set_option maxRecDepth 100000 in
theorem con_afterO (s : List Int) (x : Sys) (lab : Int) (hs : ∀ i ∈ s, 0 ≤ i ∧ i < x.length) (hsl : s.length ≤ 128) (hx : ∀ l ∈ x, l.length ≤ 1000000)
    (out : List Int) (hout : out = outOf lab (visA x s s.length)) :
    Con Try.prog 35 [vs 0 s, vy 0 x, vi lab] [] fun r _ => r = vs 2 (uniq (sortI out)) := by
  refine Con.intro Try.func35 rfl Try.ntmps35 Try.results35 (by kernel_rfl) (by simp) 0 (by simp) ?_
  simp only [go_sem]
  refine LoopK.intro (fun k : Nat => ⟨43, [(2, vi lab), (4, .pb 0 0), (7, .sl 2368 1 ((outOf lab (visA x s k)).map vi)), (12, .sl 0 1 (s.map vi)), (13, vi s.length), (14, vi k)], [.sl 0 1 (x.map (vl 0))] :: Bx (visA x s k)⟩)
    (fun k => s.length - k) (fun k => k ≤ s.length) 0 (by omega) ?_ ?_
  · simp only [go_sem, visA, List.take_zero, List.flatMap_nil]
    exact ⟨leV_nil _ _, leB_refl _⟩
  intro k hk
  by_cases h : k < s.length
  · have g1 := getv h
    obtain ⟨i, hi⟩ := Int.eq_ofNat_of_zero_le (hs _ (mem_bang h)).1
    have hi2 : i < x.length := by have := (hs _ (mem_bang h)).2; omega
    have hxl := hx _ (mem_bang hi2)
    have g2 := getvl hi2
    have hV : visA x s (k + 1) = visA x s k ++ x[i]! := by rw [visA_succ h, hi]; rfl
    have hw : IntKind.i64.wrap (k + 1) = k + 1 := wrap_in (by omega) (by omega)
    simp only [go_sem, h, g1, g2, hi, hi2]
    refine LoopK.intro (fun j : Nat => ⟨43, [(2, vi lab), (4, .pb 0 0), (7, .sl 2368 1 ((outOf lab (visA x s k ++ x[i]!.take j)).map vi)), (12, .sl 0 1 (s.map vi)), (13, vi s.length), (14, vi k), (22, .sl 0 2 (x[i]!.map va)), (23, vi x[i]!.length), (24, vi j)], [.sl 0 1 (x.map (vl 0))] :: Bx (visA x s k ++ x[i]!.take j)⟩)
      (fun j => x[i]!.length - j) (fun j => j ≤ x[i]!.length) 0 (by omega) ?_ ?_
    · simp only [go_sem, List.take_zero, List.append_nil]
    intro j hj
    by_cases hjl : j < x[i]!.length
    · have g3 := getva hjl
      have hwj : IntKind.i64.wrap (j + 1) = j + 1 := wrap_in (by omega) (by omega)
      have hBl := Bx_len (visA x s k ++ x[i]!.take j)
      have hBn := fun z => Bx_new (L := visA x s k ++ x[i]!.take j) rfl (x := z)
      have hBs := fun z => Bx_snoc (L := visA x s k ++ x[i]!.take j) rfl (x := z) (p := x[i]![j]!)
      have hBx := Bx_last (L := visA x s k ++ x[i]!.take j) rfl (p := x[i]![j]!)
      have hT : visA x s k ++ x[i]!.take (j + 1) = visA x s k ++ x[i]!.take j ++ [x[i]![j]!] := by rw [take_snoc hjl, List.append_assoc]
      by_cases hl : x[i]![j]!.1 = lab
      · have hl' : (x[i]![j]!.1 == lab) = true := by simpa using hl
        simp only [go_sem, hjl, g3, hBl, hBn, hBs, hBx, hl', hwj]
        have b1 := outOf_le lab (visA x s k ++ x[i]!.take j)
        have b2 := visA_le hx k (s := s)
        have b3 : k * 1000000 ≤ 128 * 1000000 := Nat.mul_le_mul_right _ (by omega)
        rw [List.length_append, List.length_take] at b1
        refine ⟨by simp only [roomFor]; omega, roundK.intro (j + 1) (by show j + 1 ≤ x[i]!.length; omega) (by show x[i]!.length - (j + 1) < x[i]!.length - j; omega) ?_⟩
        simp only [go_sem, hT, outOf_snoc, hl', List.map_append, List.map_cons, List.map_nil]
      · have hl' : (x[i]![j]!.1 == lab) = false := by simpa using hl
        simp only [go_sem, hjl, g3, hBl, hBn, hBs, hBx, hl', hwj]
        refine roundK.intro (j + 1) (by show j + 1 ≤ x[i]!.length; omega) (by show x[i]!.length - (j + 1) < x[i]!.length - j; omega) ?_
        simp only [go_sem, hT, outOf_snoc, hl', Bool.false_eq_true, if_false, List.append_nil]
    · have hje : j = x[i]!.length := by omega
      subst hje
      simp only [go_sem, hjl, List.take_length, hw]
      refine roundK.intro (k + 1) (by show k + 1 ≤ s.length; omega) (by show s.length - (k + 1) < s.length - k; omega) ?_
      simp only [go_sem, hV]
  · have hke : k = s.length := by omega
    subst hke
    have hb1 : out.length ≤ 128 * 1000000 := by
      have b2 := visA_le hx s.length (s := s)
      have b3 : s.length * 1000000 ≤ 128 * 1000000 := Nat.mul_le_mul_right _ hsl
      rw [hout]; have := outOf_le lab (visA x s s.length); omega
    simp only [go_sem, h, ← hout]
    by_cases h0 : out = []
    · subst h0
      refine CallU.flat (con_sort54 [] (by decide) (asc_short (by decide)).1) (by simp only [go_sem, List.map_nil]) (by simp only [go_sem, List.map_nil]) ?_
      rintro r bx rfl
      simp only [go_sem]
      refine CallU.lend (conc_compact55 [] (by decide)) (by simp only [go_sem]) (by simp only [go_sem, List.map_nil]) ?_
      rintro r rfl
      simp only [go_sem, sortI_nil]
    have hpos : 0 < out.length := List.length_pos_iff.2 h0
    refine CallU.back (conw_sort54 out hpos (by omega)) (by simp only [go_sem]) (by simp only [go_sem]) ?_
    rintro r ys ⟨rfl, rfl⟩
    simp only [go_sem, hpos]
    have hsl : (sortI out).length = out.length := by simp [sortI]
    simp only [go_sem]
    refine CallU.lend (conc_compact55 (sortI out) (by omega)) (by simp only [go_sem]) (by simp only [go_sem]) ?_
    rintro r rfl
    simp only [go_sem]
    trace_state
set_option maxRecDepth 100000 in
theorem con_labelsO (s : List Int) (x : Sys) (hs : ∀ i ∈ s, 0 ≤ i ∧ i < x.length) (hsl : s.length ≤ 128) (hx : ∀ l ∈ x, l.length ≤ 1000000)
    (out : List Int) (hout : out = (visA x s s.length).map (·.1)) :
    Con Try.prog 33 [vs 0 s, vy 0 x] [] fun r _ => r = vs 2 (uniq (sortI out)) := by
  refine Con.intro Try.func33 rfl Try.ntmps33 Try.results33 (by kernel_rfl) (by simp) 0 (by simp) ?_
  simp only [go_sem]
  refine LoopK.intro (fun k : Nat => ⟨37, [(3, .pb 0 0), (5, .sl 1984 1 (((visA x s k).map (·.1)).map vi)), (10, .sl 0 1 (s.map vi)), (11, vi s.length), (12, vi k)], [.sl 0 1 (x.map (vl 0))] :: Bx (visA x s k)⟩)
    (fun k => s.length - k) (fun k => k ≤ s.length) 0 (by omega) ?_ ?_
  · simp only [go_sem, visA, List.take_zero, List.flatMap_nil, List.map_nil]
    first | trivial | exact leB_refl _
  intro k hk
  by_cases h : k < s.length
  · have g1 := getv h
    obtain ⟨i, hi⟩ := Int.eq_ofNat_of_zero_le (hs _ (mem_bang h)).1
    have hi2 : i < x.length := by have := (hs _ (mem_bang h)).2; omega
    have hxl := hx _ (mem_bang hi2)
    have g2 := getvl hi2
    have hV : visA x s (k + 1) = visA x s k ++ x[i]! := by rw [visA_succ h, hi]; rfl
    have hw : IntKind.i64.wrap (k + 1) = k + 1 := wrap_in (by omega) (by omega)
    simp only [go_sem, h, g1, g2, hi, hi2]
    refine LoopK.intro (fun j : Nat => ⟨37, [(3, .pb 0 0), (5, .sl 1984 1 (((visA x s k ++ x[i]!.take j).map (·.1)).map vi)), (10, .sl 0 1 (s.map vi)), (11, vi s.length), (12, vi k), (20, .sl 0 2 (x[i]!.map va)), (21, vi x[i]!.length), (22, vi j)], [.sl 0 1 (x.map (vl 0))] :: Bx (visA x s k ++ x[i]!.take j)⟩)
      (fun j => x[i]!.length - j) (fun j => j ≤ x[i]!.length) 0 (by omega) ?_ ?_
    · simp only [go_sem, List.take_zero, List.append_nil]
    intro j hj
    by_cases hjl : j < x[i]!.length
    · have g3 := getva hjl
      have hwj : IntKind.i64.wrap (j + 1) = j + 1 := wrap_in (by omega) (by omega)
      have hBl := Bx_len (visA x s k ++ x[i]!.take j)
      have hBn := fun z => Bx_new (L := visA x s k ++ x[i]!.take j) rfl (x := z)
      have hBs := fun z => Bx_snoc (L := visA x s k ++ x[i]!.take j) rfl (x := z) (p := x[i]![j]!)
      have hBx := Bx_last (L := visA x s k ++ x[i]!.take j) rfl (p := x[i]![j]!)
      have hT : visA x s k ++ x[i]!.take (j + 1) = visA x s k ++ x[i]!.take j ++ [x[i]![j]!] := by rw [take_snoc hjl, List.append_assoc]
      simp only [go_sem, hjl, g3, hBl, hBn, hBs, hBx, hwj]
      have b1 : (visA x s k ++ x[i]!.take j).length = (visA x s k ++ x[i]!.take j).length := rfl
      have b2 := visA_le hx k (s := s)
      have b3 : k * 1000000 ≤ 128 * 1000000 := Nat.mul_le_mul_right _ (by omega)
      conv at b1 => rhs; rw [List.length_append, List.length_take]
      refine ⟨by simp only [roomFor]; omega, roundK.intro (j + 1) (by show j + 1 ≤ x[i]!.length; omega) (by show x[i]!.length - (j + 1) < x[i]!.length - j; omega) ?_⟩
      simp only [go_sem, hT, List.map_append, List.map_cons, List.map_nil]
    · have hje : j = x[i]!.length := by omega
      subst hje
      simp only [go_sem, hjl, List.take_length, hw]
      refine roundK.intro (k + 1) (by show k + 1 ≤ s.length; omega) (by show s.length - (k + 1) < s.length - k; omega) ?_
      simp only [go_sem, hV]
  · have hke : k = s.length := by omega
    subst hke
    have hb1 : out.length ≤ 128 * 1000000 := by
      have b2 := visA_le hx s.length (s := s)
      have b3 : s.length * 1000000 ≤ 128 * 1000000 := Nat.mul_le_mul_right _ hsl
      have b4 : out.length = (visA x s s.length).length := by rw [hout]; exact List.length_map _
      omega
    simp only [go_sem, h, ← hout]
    by_cases h0 : out = []
    · subst h0
      refine CallU.flat (con_sort52 [] (by decide) (asc_short (by decide)).1) (by simp only [go_sem, List.map_nil]) (by simp only [go_sem, List.map_nil]) ?_
      rintro r bx rfl
      simp only [go_sem]
      refine CallU.lend (conc_compact53 [] (by decide)) (by simp only [go_sem]) (by simp only [go_sem, List.map_nil]) ?_
      rintro r rfl
      simp only [go_sem, sortI_nil]
    have hpos : 0 < out.length := List.length_pos_iff.2 h0
    refine CallU.back (conw_sort52 out hpos (by omega)) (by simp only [go_sem]) (by simp only [go_sem]) ?_
    rintro r ys ⟨rfl, rfl⟩
    simp only [go_sem, hpos]
    have hsl : (sortI out).length = out.length := by simp [sortI]
    simp only [go_sem]
    refine CallU.lend (conc_compact53 (sortI out) (by omega)) (by simp only [go_sem]) (by simp only [go_sem]) ?_
    rintro r rfl
    simp only [go_sem]
    trace_state
end Go.AM

/-! ## WJ -/
namespace Go.AM
open Go Go.Proofs Go.RowKit

/-- x's values are y's -/
def Sub (x y : AV) : Prop := ∀ (S : Nat → Prop) (w : World) (v : Value), FRel S w x v → FRel S w y v
theorem Sub.refl (x : AV) : Sub x x := fun _ _ _ h => h
theorem Sub.nil (es : Nat) : Sub .nil (.sl 0 es []) := fun S w v h => by
  cases h; exact .slNil 0 es none 0 (by omega) (fun h => by omega) (fun _ => rfl)
theorem flat_one {xs : List AV} (h : ∀ x ∈ xs, x.cells = [x]) : flat xs = xs := by
  induction xs with
  | nil => rfl
  | cons x xs ih =>
    have e := ih fun y hy => h y (List.mem_cons_of_mem _ hy)
    unfold flat at *
    rw [List.flatMap_cons, h x (List.mem_cons_self ..), e]; rfl
theorem Sub.sl {t : Nat} {xs ys : List AV} (hx : ∀ x ∈ xs, x.cells = [x]) (hy : ∀ y ∈ ys, y.cells = [y]) (h : PW Sub xs ys) : Sub (.sl t 1 xs) (.sl t 1 ys) := fun S w v hv => by
  have hl := h.1
  cases hv with
  | slNil _ _ a c h1 h2 h3 =>
    have : ys = [] := List.eq_nil_of_length_eq_zero (by simpa using hl.symm)
    subst this; exact .slNil t 1 a c h1 h2 h3
  | sl _ _ _ b off c vals h1 h2 h3 hc h4 h5 h0 h6 h7 =>
    rw [hl]
    rw [flat_one hx] at h5 h7
    refine .sl t 1 ys b off c vals h1 h2 (fun e => by rw [h3 e, hl]) (by omega) (fun y hy' => by rw [hy y hy']; rfl) (by rw [flat_one hy]; omega) h0 h6 fun j y u hj hu => ?_
    rw [flat_one hy] at hj
    have hjl : j < xs.length := by rw [hl]; exact (List.getElem?_eq_some_iff.1 hj).1
    exact h.2 j _ y (List.getElem?_eq_getElem hjl) hj S w u (h7 j _ u (List.getElem?_eq_getElem hjl) hu)
theorem Sub.ag1 {x y : AV} (h : Sub x y) : Sub (.ag [x]) (.ag [y]) := fun S w v hv => by
  cases hv with
  | ag _ vs h1 h2 h3 =>
    refine .ag [y] vs h1 h2 fun j z u hz hu => ?_
    cases j with
    | zero => simp at hz; subst hz; exact h S w u (h3 0 x u rfl hu)
    | succ j => simp at hz
theorem Con.sub {P : Program} {f : FuncId} {args args' : List AV} {bx : List (List AV)} {post : AV → List (List AV) → Prop} (h : Con P f args bx post)
    (ha : PW (fun x y => x = y ∨ (x.fz = true ∧ Sub x y)) args' args) : Con P f args' bx post :=
  h.args fun G w vs hv => ⟨by rw [← ha.1]; exact hv.1, fun j y u hy hu => by
    have hjl : j < args'.length := by rw [ha.1]; exact (List.getElem?_eq_some_iff.1 hy).1
    have h1 := hv.2 j _ u (List.getElem?_eq_getElem hjl) hu
    rcases ha.2 j _ y (List.getElem?_eq_getElem hjl) hy with rfl | ⟨h2, h3⟩
    · exact h1
    · exact .froz (h3 _ _ _ (h1.fz h2))⟩

theorem DrawK.freeze {P : Program} {ops : Array Oper} {σ : St} {K : St → Prop} (p : Nat → Bool) (h : DrawK P ops (σ.map (freezeLeaf p)) K) : DrawK P ops σ K :=
  fun G0 w0 _G a w id Q h0 hs hK => h G0 w0 _ a w id Q h0 (hs.freeze h0 p) hK
/-- what a callee hands back, never written again -/
theorem Con.freezeR {P : Program} {f : FuncId} {args : List AV} {post : AV → Prop} (p : Nat → Bool) (h : Con P f args [] fun r _ => post r) : Con P f args [] fun r' _ => ∃ r, post r ∧ r' = r.freeze p :=
  ⟨h.1, fun G w vs h1 h2 h3 h4 h5 => (h.2 G w vs h1 h2 h3 h4 h5).mono fun e w' ⟨v, r, bx', G', he, hq, hr, hg, hbx, hlt, e1, e2, e3, e4, e5, e6⟩ => by
    have hbox : ∀ k i, freezeG p G' k = .box i ↔ G' k = .box i := fun k i => by
      unfold freezeG; split
      · rename_i t ht; split <;> simp [ht]
      · exact Iff.rfl
    refine ⟨v, _, bx'.map (fun cs => cs.map (AV.freeze p)), freezeG p G', he, ⟨r, hq, rfl⟩, hr.freeze, hg.freeze, ⟨fun i vs hv => by simp [noGh] at hv, fun i cs hi => ?_⟩, fun k i hk => by simpa using hlt k i ((hbox k i).1 hk), e1, e2, e3, e4, fun k hk => ?_, e6⟩
    · rw [List.getElem?_map] at hi
      cases hc : bx'[i]? with
      | none => simp [hc] at hi
      | some cs' =>
        simp [hc] at hi; subst hi
        exact (hbx.cell i cs' hc).map (fun x v hr => hr.freeze) (fun k hk => ⟨(hbox k i).2 hk, rfl⟩) fun h0 k hk => h0 k ((hbox k i).1 hk)
    · have := e5 k hk
      unfold freezeG
      split
      · rename_i t ht; rw [this] at ht; exact absurd ht (h2 k t)
      · exact this⟩
theorem con_allF : Con Try.prog 15 [] [] fun r _ => r = vy 0 allS :=
  (Con.freezeR (fun _ => true) con_all).mono fun r bx ⟨r0, h1, h2⟩ => by subst h1; subst h2; rfl

/-- the example's system, as it is written -/
def oneA : AV := .ag [.sl 0 1 [.sl 0 2 [va (1, 1)], .nil]]
theorem sub_one : Sub oneA (vy 0 oneS) := by
  refine Sub.ag1 (Sub.sl ?_ ?_ (.cons (.refl _) (.cons (.nil 2) (.nil _))))
  · intro x hx; simp at hx; rcases hx with rfl | rfl <;> rfl
  · intro x hx; simp [vl] at hx; obtain ⟨l, _, rfl⟩ := hx; rfl
theorem fz_one : oneA.fz = true := rfl

set_option maxRecDepth 100000 in
set_option maxHeartbeats 2000000 in
theorem con_sane : Con Try.prog 9 [] [] fun r _ => r = .sc (.bool true) := by
  refine Con.intro Try.func9 rfl Try.ntmps9 Try.results9 (by kernel_rfl) (by simp) 0 (by simp) ?_
  have hlen : ∀ s : Sys, (∀ l ∈ s, l.length ≤ 3) → ∀ l ∈ s, l.length ≤ 281474976710656 := fun s h l hl => Nat.le_trans (h l hl) (by decide)
  have h1 : ∀ l ∈ allS, l.length ≤ 3 := by decide
  have h2 : ∀ l ∈ oneS, l.length ≤ 3 := by decide
  have c1 : checkS oneS = 0 := by decide
  simp only [go_sem]
  refine DrawK.freeze (fun _ => true) ?_
  simp only [go_sem]
  refine DrawK.walk 8 mixed (by kernel_rfl) ?_
  simp only [go_sem]
  have k1 := (con_simulatesV oneS allS c1 all_check (hlen _ h2) (hlen _ h1) (by decide)).sub (args' := [oneA, vy 0 allS]) (.cons (.inr ⟨fz_one, sub_one⟩) (.cons (.inl rfl) (.nil _)))
  have k2 := (con_simulatesV allS oneS all_check c1 (hlen _ h1) (hlen _ h2) (by decide)).sub (args' := [vy 0 allS, oneA]) (.cons (.inl rfl) (.cons (.inr ⟨fz_one, sub_one⟩) (.nil _)))
  have k3 := con_trace1.sub (args' := [vy 0 allS, oneA, vi 3]) (.cons (.inl rfl) (.cons (.inr ⟨fz_one, sub_one⟩) (.cons (.inl rfl) (.nil _))))
  have k4 := con_acc1.sub (args' := [oneA, vs 0 [1]]) (.cons (.inr ⟨fz_one, sub_one⟩) (.cons (.inl rfl) (.nil _)))
  have k5 := con_acc2.sub (args' := [oneA, vs 0 [1, 1]]) (.cons (.inr ⟨fz_one, sub_one⟩) (.cons (.inl rfl) (.nil _)))
  rw [sim_oneall] at k1
  rw [sim_allone] at k2
  refine CallY.mk con_allF (by simp only [go_sem]) (by simp only [go_sem]) (.inl rfl) ?_
  simp only [go_sem]
  refine CallY.mk k1 (by simp only [go_sem, oneA, allS]) (by simp only [go_sem]) (.inr (by simp only [go_sem])) ?_
  simp only [go_sem]
  refine DrawK.walk 8 mixed (by kernel_rfl) ?_
  simp only [go_sem]
  refine CallY.mk con_allF (by simp only [go_sem]) (by simp only [go_sem]) (.inl rfl) ?_
  simp only [go_sem]
  refine CallY.mk k2 (by simp only [go_sem, oneA, allS]) (by simp only [go_sem]) (.inr (by simp only [go_sem])) ?_
  simp only [go_sem]
  refine DrawK.walk 10 mixed (by kernel_rfl) ?_
  simp only [go_sem]
  refine CallY.mk con_allF (by simp only [go_sem]) (by simp only [go_sem]) (.inl rfl) ?_
  simp only [go_sem]
  refine CallY.mk k3 (by simp only [go_sem, oneA, allS]) (by simp only [go_sem]) (.inl (by simp only [go_sem])) ?_
  simp only [go_sem]
  refine CallU.flat k4 (by simp only [go_sem]) (by simp only [go_sem, oneA]) ?_
  rintro r bx rfl
  simp only [go_sem]
  refine CallU.flat k5 (by simp only [go_sem]) (by simp only [go_sem, oneA]) ?_
  rintro r bx rfl
  simp only [go_sem]
end Go.AM
