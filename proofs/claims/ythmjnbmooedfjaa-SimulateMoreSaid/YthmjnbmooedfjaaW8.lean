/-
  Walks: Greatest.
-/
import Derived.Test.YthmjnbmooedfjaaW7
import Derived.Test.YthmjnbmooedfjaaLb
namespace Go.AM
open Go Go.Proofs Go.RowKit

/-- what a callee hands back, under another tag -/
theorem Con.retag {P : Program} {f : FuncId} {args : List AV} {bx : List (List AV)} {post : AV → Prop} (a b : Nat) (ha : 2 ≤ a) (hb : 2 ≤ b) (h : Con P f args bx fun r _ => post r) :
    Con P f args bx fun r' _ => ∃ r, post r ∧ r' = r.mapTop (retagLeaf a b) :=
  ⟨h.1, fun G w vs h1 h2 h3 h4 h5 => (h.2 G w vs h1 h2 h3 h4 h5).mono fun e w' ⟨v, r, bx', G', he, hq, hr, hg, hbx, hlt, e1, e2, e3, e4, e5, e6⟩ => by
    have hbox : ∀ k i, retagG a b G' k = .box i → G' k = .box i := fun k i hk => by
      unfold retagG at hk; split at hk
      · cases hk
      · split at hk
        · cases hk
        · exact hk
    refine ⟨v, _, bx'.map (fun cs => cs.map (AV.mapTop (retagLeaf a b))), retagG a b G', he, ⟨r, hq, rfl⟩, hr.retag ha hb, hg.retag, ⟨fun i vs hv => by simp [noGh] at hv, fun i cs hi => ?_⟩, fun k i hk => by simpa using hlt k i (hbox k i hk), e1, e2, e3, e4, fun k hk => ?_, e6⟩
    · rw [List.getElem?_map] at hi
      cases hc : bx'[i]? with
      | none => simp [hc] at hi
      | some cs' =>
        simp [hc] at hi; subst hi
        exact (hbx.cell i cs' hc).map (fun x v hr => hr.retag ha hb) (fun k hk => ⟨by simp [retagG, hk], rfl⟩) fun h0 k hk => h0 k (hbox k i hk)
    · have := e5 k hk
      unfold retagG
      rw [this, if_neg (h2 k a), if_neg (h2 k b)]⟩

theorem con_repeat2 (n : Nat) (h1 : 1 ≤ n) (hn : n ≤ 8) : Con Try.prog 36 [vbl 0 [true], vi n] [] fun r _ => r = .sl (subT 2 0) 1 ((List.replicate n true).map vb) :=
  (Con.retag 2 (subT 2 0) (by omega) (by have := sub_big 2 0; omega) (con_repeat n h1 hn)).mono fun r bx ⟨r0, h0, h⟩ => by
    subst h0; subst h; simp [AV.mapTop, retagLeaf]

theorem checkS_ok {s : Sys} (h : checkS s = 0) : 1 ≤ s.length ∧ s.length ≤ 128 ∧ ∀ l ∈ s, ∀ q ∈ l, 0 ≤ q.2 ∧ q.2 < s.length := by
  unfold checkS at h
  split at h
  · cases h
  · rename_i hc
    simp only [Bool.or_eq_true, not_or, decide_eq_true_eq, Bool.not_eq_true] at hc
    obtain ⟨⟨⟨h1, h2⟩, h3⟩, _⟩ := hc
    refine ⟨by omega, by omega, fun l hl q hq => ?_⟩
    rw [List.any_eq_false] at h3
    have := h3 l hl
    simp only [Bool.not_eq_true] at this
    rw [List.any_eq_false] at this
    have := this q hq
    simp only [badArc, Bool.or_eq_true, decide_eq_true_eq, not_or] at this
    omega

theorem rowsB_mv {a b : Nat} {M : Rel} (ha : a < 1048576) (hb : b < 1048576) : (rowsB a M).map (mvRow a b) = rowsB b M :=
  rowsB_map fun i r => by
    have h1 : root (subT a i) = a := by rw [root_sub]; unfold root; omega
    have h2 : mvT a b (subT a i) = subT b i := by
      have e1 : a / 1048576 = 0 := by omega
      have e2 : b / 1048576 = 0 := by omega
      unfold mvT subT; rw [e1, e2]; omega
    simp only [mvRow, h1, if_true, h2]

set_option maxRecDepth 100000 in
theorem con_greatest (a b : Sys) (hab : bothS a b = 0) (ha : ∀ l ∈ a, l.length ≤ 281474976710656) (hb : ∀ l ∈ b, l.length ≤ 281474976710656) (hb8 : b.length ≤ 8) :
    Con Try.prog 16 [vy 0 a, vy 0 b] [] fun r _ => ∃ R, r = .tup [vtb 2 R, vi 0] ∧ IsGreatest a b R := by
  have hca : checkS a = 0 := by unfold bothS at hab; split at hab <;> assumption
  have hcb : checkS b = 0 := by unfold bothS at hab; rw [if_pos hca] at hab; exact hab
  obtain ⟨a1, a2, a3⟩ := checkS_ok hca
  obtain ⟨b1, b2, b3⟩ := checkS_ok hcb
  refine Con.intro Try.func16 rfl Try.ntmps16 Try.results16 (by kernel_rfl) (by simp) 0 (by simp) ?_
  simp only [go_sem]
  refine CallU.free (con_both a b ha (by omega) hb (by omega)) (by simp only [go_sem]) (by simp only [go_sem]) ?_
  rintro r bx rfl
  simp only [go_sem, hab]
  refine LoopK.intro (fun k : Nat => ⟨33, [(2, .pb 0 0), (3, .pb 1 0), (7, vtb 512 (fullR k b.length)), (16, .sc (.int .i64 a.length)), (17, .sc (.int .i64 k))], [[.sl 0 1 (a.map (vl 0))], [.sl 0 1 (b.map (vl 0))]]⟩)
    (fun k => a.length - k) (fun k => k ≤ a.length) 0 (by omega) ?_ ?_
  · simp only [go_sem, fullR, List.replicate_zero]
  · intro k hk0
    by_cases hk : k < a.length
    · have hw : IntKind.i64.wrap (k + 1) = k + 1 := wrap_in (by omega) (by omega)
      have hM : (fullR k b.length).length = k := by simp [fullR]
      have hrows : (rowsB 512 (fullR k b.length)).map (killRow 512 ∘ retagRow (subT 1664 0) (subT 512 k) ∘ retagRow (subT 1602 0) (subT 1664 0)) = rowsB 512 (fullR k b.length) := by
        rw [← List.map_map, ← List.map_map]
        have e1 : (rowsB 512 (fullR k b.length)).map (retagRow (subT 1602 0) (subT 1664 0)) = rowsB 512 (fullR k b.length) :=
          rowsB_map fun i r => by simp only [retagRow, sub_sub]; simp
        have e2 : (rowsB 512 (fullR k b.length)).map (retagRow (subT 1664 0) (subT 512 k)) = rowsB 512 (fullR k b.length) := by
          have := rowsB_retagsub (t := 512) (s := 1664) (j := 0) (M := fullR k b.length) (by simp)
          rw [hM] at this; exact this
        have e3 : (rowsB 512 (fullR k b.length)).map (killRow 512) = rowsB 512 (fullR k b.length) := rowsB_killlit (by omega)
        rw [e1, e2, e3]
      have hsn : rowsB 512 (fullR k b.length) ++ [AV.sl (subT 512 k) 1 (List.map vb (List.replicate b.length true))] = rowsB 512 (fullR (k + 1) b.length) := by
        have := rowsB_snoc (t := 512) (M := fullR k b.length) (r := List.replicate b.length true)
        rw [hM] at this; rw [this]; simp only [fullR, List.replicate_succ']
      have hmem : (List.map vb (List.replicate b.length true)).all memless = true := by simp [vb, memless]
      simp only [go_sem, hk]
      refine CallU.flat (con_repeat2 b.length b1 hb8) (by simp only [go_sem]) (by simp only [go_sem]) ?_
      rintro r bx rfl
      simp only [go_sem, hM, hrows, hsn, hmem, hw]
      refine ⟨by simp [roomFor]; omega, roundK.intro (k + 1) (by show k + 1 ≤ a.length; omega) (by show a.length - (k + 1) < a.length - k; omega) ?_⟩
      simp only [go_sem]
    · have hkn : k = a.length := by omega
      subst hkn
      simp only [go_sem, hk]
      have hfull := full_sized a.length b.length
      refine LoopK.intro (fun R : Rel => ⟨33, [(2, .pb 0 0), (3, .pb 1 0), (7, vtb 512 R)], [[.sl 0 1 (a.map (vl 0))], [.sl 0 1 (b.map (vl 0))]]⟩)
        (fun R => tally R) (fun R => Red a b (fullR a.length b.length) R) (fullR a.length b.length) (.refl _) ?_ ?_
      · simp only [go_sem]
      intro R hR
      have hs : Sized R a.length b.length := hR.sized rfl hfull
      have hRl : R.length = a.length := hs.1
      have ca : Closed1 a := ⟨a2, fun l hl => ⟨ha l hl, a3 l hl⟩⟩
      have cb : Closed1 b := ⟨b2, fun l hl => ⟨hb l hl, b3 l hl⟩⟩
      simp only [go_sem]
      refine CallU.back (con_refine R a b hs ca cb) (by simp only [go_sem]) (by simp only [go_sem]) ?_
      rintro r ys ⟨R', c, rfl, rfl, hp⟩
      have hs' : Sized R' a.length b.length := hp.red.sized rfl hs
      have hRl' : R'.length = a.length := hs'.1
      have hpos : 0 < a.length := a1
      simp only [go_sem, hRl, hRl', hpos]
      cases c
      · simp only [go_sem]
        obtain ⟨rfl, h1, _⟩ := hp.same rfl
        exact ⟨R', rfl, hs', hR, fun x y hx hy hr => h1 x y hx hy hr⟩
      · simp only [go_sem]
        refine roundK.mv 2050 512 (by omega) (by omega) (by omega) R' (hR.trans hp.red) (hp.less rfl) ?_
        have hm : (rowsB 2050 R').map (mvRow 2050 512) = rowsB 512 R' := rowsB_mv (by omega) (by omega)
        have hmt : mvT 2050 512 2050 = 512 := by decide
        simp only [go_sem, hm, hmt]
end Go.AM
