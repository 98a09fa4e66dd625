/-
  Walks: the sanity check.
-/
import Derived.Test.YthmjnbmooedfjaaWI
namespace Go.AM
open Go Go.Proofs Go.RowKit

/-- x's values are y's -/
def Sub (x y : AV) : Prop := ∀ (S : Nat → Prop) (w : World) (v : Value), FRel S w x v → FRel S w y v
theorem Sub.refl (x : AV) : Sub x x := fun _ _ _ h => h
theorem Sub.nil (es : Nat) : Sub .nil (.sl 0 es []) := fun S w v h => by
  cases h; exact .slNil 0 es none 0 (by omega) (fun h => by omega) (fun _ => rfl)
theorem flat_one {xs : List AV} (h : ∀ x ∈ xs, x.cells = [x]) : flat xs = xs := by
  induction xs with
  | nil => rfl
  | cons x xs ih =>
    have e := ih fun y hy => h y (List.mem_cons_of_mem _ hy)
    unfold flat at *
    rw [List.flatMap_cons, h x (List.mem_cons_self ..), e]; rfl
theorem Sub.sl {t : Nat} {xs ys : List AV} (hx : ∀ x ∈ xs, x.cells = [x]) (hy : ∀ y ∈ ys, y.cells = [y]) (h : PW Sub xs ys) : Sub (.sl t 1 xs) (.sl t 1 ys) := fun S w v hv => by
  have hl := h.1
  cases hv with
  | slNil _ _ a c h1 h2 h3 =>
    have : ys = [] := List.eq_nil_of_length_eq_zero (by simpa using hl.symm)
    subst this; exact .slNil t 1 a c h1 h2 h3
  | sl _ _ _ b off c vals h1 h2 h3 hc h4 h5 h0 h6 h7 =>
    rw [hl]
    rw [flat_one hx] at h5 h7
    refine .sl t 1 ys b off c vals h1 h2 (fun e => by rw [h3 e, hl]) (by omega) (fun y hy' => by rw [hy y hy']; rfl) (by rw [flat_one hy]; omega) h0 h6 fun j y u hj hu => ?_
    rw [flat_one hy] at hj
    have hjl : j < xs.length := by rw [hl]; exact (List.getElem?_eq_some_iff.1 hj).1
    exact h.2 j _ y (List.getElem?_eq_getElem hjl) hj S w u (h7 j _ u (List.getElem?_eq_getElem hjl) hu)
theorem Sub.ag1 {x y : AV} (h : Sub x y) : Sub (.ag [x]) (.ag [y]) := fun S w v hv => by
  cases hv with
  | ag _ vs h1 h2 h3 =>
    refine .ag [y] vs h1 h2 fun j z u hz hu => ?_
    cases j with
    | zero => simp at hz; subst hz; exact h S w u (h3 0 x u rfl hu)
    | succ j => simp at hz
theorem Con.sub {P : Program} {f : FuncId} {args args' : List AV} {bx : List (List AV)} {post : AV → List (List AV) → Prop} (h : Con P f args bx post)
    (ha : PW (fun x y => x = y ∨ (x.fz = true ∧ Sub x y)) args' args) : Con P f args' bx post :=
  h.args fun G w vs hv => ⟨by rw [← ha.1]; exact hv.1, fun j y u hy hu => by
    have hjl : j < args'.length := by rw [ha.1]; exact (List.getElem?_eq_some_iff.1 hy).1
    have h1 := hv.2 j _ u (List.getElem?_eq_getElem hjl) hu
    rcases ha.2 j _ y (List.getElem?_eq_getElem hjl) hy with rfl | ⟨h2, h3⟩
    · exact h1
    · exact .froz (h3 _ _ _ (h1.fz h2))⟩

theorem DrawK.freeze {P : Program} {ops : Array Oper} {σ : St} {K : St → Prop} (p : Nat → Bool) (h : DrawK P ops (σ.map (freezeLeaf p)) K) : DrawK P ops σ K :=
  fun G0 w0 G a w id Q h0 hs hK => h G0 w0 _ a w id Q h0 (hs.freeze h0 p) hK
/-- what a callee hands back, never written again -/
theorem Con.freezeR {P : Program} {f : FuncId} {args : List AV} {post : AV → Prop} (p : Nat → Bool) (h : Con P f args [] fun r _ => post r) : Con P f args [] fun r' _ => ∃ r, post r ∧ r' = r.freeze p :=
  ⟨h.1, fun G w vs h1 h2 h3 h4 h5 => (h.2 G w vs h1 h2 h3 h4 h5).mono fun e w' ⟨v, r, bx', G', he, hq, hr, hg, hbx, hlt, e1, e2, e3, e4, e5, e6⟩ => by
    have hbox : ∀ k i, freezeG p G' k = .box i ↔ G' k = .box i := fun k i => by
      unfold freezeG; split
      · rename_i t ht; split <;> simp [ht]
      · exact Iff.rfl
    refine ⟨v, _, bx'.map (fun cs => cs.map (AV.freeze p)), freezeG p G', he, ⟨r, hq, rfl⟩, hr.freeze, hg.freeze, ⟨fun i vs hv => by simp [noGh] at hv, fun i cs hi => ?_⟩, fun k i hk => by simpa using hlt k i ((hbox k i).1 hk), e1, e2, e3, e4, fun k hk => ?_, e6⟩
    · rw [List.getElem?_map] at hi
      cases hc : bx'[i]? with
      | none => simp [hc] at hi
      | some cs' =>
        simp [hc] at hi; subst hi
        exact (hbx.cell i cs' hc).map (fun x v hr => hr.freeze) (fun k hk => ⟨(hbox k i).2 hk, rfl⟩) fun h0 k hk => h0 k ((hbox k i).1 hk)
    · have := e5 k hk
      unfold freezeG
      split
      · rename_i t ht; rw [this] at ht; exact absurd ht (h2 k t)
      · exact this⟩
theorem con_allF : Con Try.prog 15 [] [] fun r _ => r = vy 0 allS :=
  (Con.freezeR (fun _ => true) con_all).mono fun r bx ⟨r0, h1, h2⟩ => by subst h1; subst h2; rfl

/-- the example's system, as it is written -/
def oneA : AV := .ag [.sl 0 1 [.sl 0 2 [va (1, 1)], .nil]]
theorem sub_one : Sub oneA (vy 0 oneS) := by
  refine Sub.ag1 (Sub.sl ?_ ?_ (.cons (.refl _) (.cons (.nil 2) (.nil _))))
  · intro x hx; simp at hx; rcases hx with rfl | rfl <;> rfl
  · intro x hx; simp [vl] at hx; obtain ⟨l, _, rfl⟩ := hx; rfl
theorem fz_one : oneA.fz = true := rfl

set_option maxRecDepth 100000 in
set_option maxHeartbeats 2000000 in
theorem con_sane : Con Try.prog 9 [] [] fun r _ => r = .sc (.bool true) := by
  refine Con.intro Try.func9 rfl Try.ntmps9 Try.results9 (by kernel_rfl) (by simp) 0 (by simp) ?_
  have hlen : ∀ s : Sys, (∀ l ∈ s, l.length ≤ 3) → ∀ l ∈ s, l.length ≤ 281474976710656 := fun s h l hl => Nat.le_trans (h l hl) (by decide)
  have h1 : ∀ l ∈ allS, l.length ≤ 3 := by decide
  have h2 : ∀ l ∈ oneS, l.length ≤ 3 := by decide
  have c1 : checkS oneS = 0 := by decide
  simp only [go_sem]
  refine DrawK.freeze (fun _ => true) ?_
  simp only [go_sem]
  refine DrawK.walk 8 mixed (by kernel_rfl) ?_
  simp only [go_sem]
  have k1 := (con_simulatesV oneS allS c1 all_check (hlen _ h2) (hlen _ h1) (by decide)).sub (args' := [oneA, vy 0 allS]) (.cons (.inr ⟨fz_one, sub_one⟩) (.cons (.inl rfl) (.nil _)))
  have k2 := (con_simulatesV allS oneS all_check c1 (hlen _ h1) (hlen _ h2) (by decide)).sub (args' := [vy 0 allS, oneA]) (.cons (.inl rfl) (.cons (.inr ⟨fz_one, sub_one⟩) (.nil _)))
  have k3 := con_trace1.sub (args' := [vy 0 allS, oneA, vi 3]) (.cons (.inl rfl) (.cons (.inr ⟨fz_one, sub_one⟩) (.cons (.inl rfl) (.nil _))))
  have k4 := con_acc1.sub (args' := [oneA, vs 0 [1]]) (.cons (.inr ⟨fz_one, sub_one⟩) (.cons (.inl rfl) (.nil _)))
  have k5 := con_acc2.sub (args' := [oneA, vs 0 [1, 1]]) (.cons (.inr ⟨fz_one, sub_one⟩) (.cons (.inl rfl) (.nil _)))
  rw [sim_oneall] at k1
  rw [sim_allone] at k2
  refine CallY.mk con_allF (by simp only [go_sem]) (by simp only [go_sem]) (.inl rfl) ?_
  simp only [go_sem]
  refine CallY.mk k1 (by simp only [go_sem, oneA, allS]) (by simp only [go_sem]) (.inr (by simp only [go_sem])) ?_
  simp only [go_sem]
  refine DrawK.walk 8 mixed (by kernel_rfl) ?_
  simp only [go_sem]
  refine CallY.mk con_allF (by simp only [go_sem]) (by simp only [go_sem]) (.inl rfl) ?_
  simp only [go_sem]
  refine CallY.mk k2 (by simp only [go_sem, oneA, allS]) (by simp only [go_sem]) (.inr (by simp only [go_sem])) ?_
  simp only [go_sem]
  refine DrawK.walk 10 mixed (by kernel_rfl) ?_
  simp only [go_sem]
  refine CallY.mk con_allF (by simp only [go_sem]) (by simp only [go_sem]) (.inl rfl) ?_
  simp only [go_sem]
  refine CallY.mk k3 (by simp only [go_sem, oneA, allS]) (by simp only [go_sem]) (.inl (by simp only [go_sem])) ?_
  simp only [go_sem]
  refine CallU.flat k4 (by simp only [go_sem]) (by simp only [go_sem, oneA]) ?_
  rintro r bx rfl
  simp only [go_sem]
  refine CallU.flat k5 (by simp only [go_sem]) (by simp only [go_sem, oneA]) ?_
  rintro r bx rfl
  simp only [go_sem]
end Go.AM
