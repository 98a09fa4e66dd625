/- QB QB2 QB3 -/
import Derived.Test.YtpmodjodfimejaaGreath20
import Derived.Test.YtpmodjodfimejaaGreath7
import Derived.Test.YtpmodjodfimejaaGreath13
namespace Go.AM
open Go Go.Proofs Go.RowKit
set_option maxRecDepth 100000
set_option maxHeartbeats 8000000
def meetT (T : St -> Prop) (σ : St) : Prop := ∃ τ, T τ /\ σ.le τ
theorem meetT.intro {T : St -> Prop} {σ : St} (τ : St) (h : T τ) (hl : σ.le τ) : meetT T σ := ⟨τ, h, hl⟩
theorem DrawK.meetE {P : Program} {ops : Array Oper} {σ : St} {K : St -> Prop} (T : St -> Prop) (h : DrawK P ops σ fun σ' => meetT T σ') (hk : ∀ τ, T τ -> K τ) : DrawK P ops σ K :=
 fun G0 w0 G a w id Q t hs hQ => h G0 w0 G a w id Q t hs fun _ G' a' w' ⟨τ, hT, hl⟩ h' => hQ τ G' a' w' (hk τ hT) (h'.le hl)
def TypeOk (d : Nat) (t : TD) : Prop := (∀ n, rightT (n + d) t = true) /\ t.Ok
def TypeCon (l : List Int) (d : Nat) (s : DS) : Prop :=
 Con Tryz.prog 63 [.pb 0 0, vi d, vb false] [deckA l s] fun r b => ∃ t s', TypeOk d t /\ Dk l s' /\ r = vT t /\ b = [deckA l s']
theorem seven_at {j : Nat} (h : j < 7) : [vi 1, vi 2, vi 3, vi 4, vi 5, vi 6, vi 7][j]? = some (vi (j + 1)) := by
 match j, h with
 | 0, _ => rfl
 | 1, _ => rfl
 | 2, _ => rfl
 | 3, _ => rfl
 | 4, _ => rfl
 | 5, _ => rfl
 | 6, _ => rfl
theorem ok_leaf (k s : Int) (r : List Int) (h : r.length <= 1000000) : (TD.mk k s r []).Ok := .mk _ _ _ _ h (by simp) fun x hx => by cases hx
theorem typeOk_nat (d : Nat) (hd : 1 <= d) : TypeOk d (.mk 1 0 [] []) := by
 refine ⟨fun n => ?_, ok_leaf _ _ _ (by simp)⟩
 obtain ⟨m, hm⟩ : ∃ m, n + d = m + 1 := ⟨n + d - 1, by omega⟩
 rw [hm]
 unfold rightT
 simp [TD.kind, TD.size, TD.parts, TD.ranks]
theorem typeOk_label (d : Nat) (hd : 1 <= d) {k s : Int} (hk : k = 2 \/ k = 6) (hs : 1 <= s /\ s <= 16) : TypeOk d (.mk k s [] []) := by
 refine ⟨fun n => ?_, ok_leaf _ _ _ (by simp)⟩
 obtain ⟨m, hm⟩ : ∃ m, n + d = m + 1 := ⟨n + d - 1, by omega⟩
 rw [hm]
 unfold rightT
 rcases hk with rfl | rfl <;> simp [TD.kind, TD.size, TD.parts, TD.ranks, hs.1, hs.2]
theorem typeOk_prio (d : Nat) (hd : 1 <= d) {r : List Int} (hr : r.length = 2) (h : ∀ x ∈ r, 0 <= x /\ x <= 1) : TypeOk d (.mk 7 2 r []) := by
 refine ⟨fun n => ?_, ok_leaf _ _ _ (by omega)⟩
 obtain ⟨m, hm⟩ : ∃ m, n + d = m + 1 := ⟨n + d - 1, by omega⟩
 have hany : r.any badRank = false := by
  rw [List.any_eq_false]
  intro x hx
  have := h x hx
  unfold badRank
  rw [decide_eq_false (by omega), decide_eq_false (by omega)]; decide
 rw [hm]
 unfold rightT rankedL
 simp [TD.kind, TD.size, TD.parts, TD.ranks, hr, hany]
theorem typeOk_prod {l : List TD} (h1 : 1 <= l.length /\ l.length <= 8) (h : ∀ t ∈ l, TypeOk 1 t) : TypeOk 2 (.mk 3 0 [] l) :=
 ⟨fun n => right_prod (n + 1) h1 fun t ht => (h t ht).1 n, .mk _ _ _ _ (by simp) (by omega) fun t ht => (h t ht).2⟩
theorem typeOk_list {k : Int} {t : TD} (hk : k = 4 \/ k = 5) (h : TypeOk 1 t) : TypeOk 2 (.mk k 0 [] [t]) :=
 ⟨fun n => right_bag (n + 1) hk (h.1 n), .mk _ _ _ _ (by simp) (by simp) fun x hx => by rw [List.mem_singleton] at hx; subst hx; exact h.2⟩
def typeTree : Tr := .front 0 (.front 2 (.front 3 (.front 5 (.alt (.one 1 (.one 4 (.one 6 (.one 7 (.one 8 (.front 9 (.one 10 .done))))))) (.one 4 (.alt (.one 1 (.one 6 (.one 7 (.one 8 (.front 9 (.one 10 .done)))))) (.one 6 (.alt (.one 1 (.one 7 (.one 8 (.front 9 (.one 10 .done))))) (.one 7 (.one 1 (.one 8 (.front 9 (.one 10 .done)))))))))))))
theorem vT_one (k s : Int) (t : TD) : leV (.ag [vi k, vi s, .nil, .sl 0 4 [.ag [vi t.kind, vi t.size, vs 0 t.ranks, .sl 0 4 (t.parts.map vT)]]]) (vT (.mk k s [] [t])) := by
 rw [<- vT_eq]
 exact vT_parts k s [t]
theorem vT_ranks (k s : Int) (r : List Int) : leV (.ag [vi k, vi s, vs 0 r, .nil]) (vT (.mk k s r [])) := by
 rw [vT_eq]
 exact leV_ag ⟨leV_refl _, leV_refl _, leV_refl _, leV_nil 0 4, trivial⟩
theorem TypeCon.mk {l : List Int} {d : Nat} {s : DS} (h : Con Tryz.prog 63 [.pb 0 0, vi d, vb false] [deckA l s] fun r b => ∃ t s', TypeOk d t /\ Dk l s' /\ leV (r.freeze fun _ => true) (vT t) /\ b = [deckA l s']) : TypeCon l d s :=
 (h.freezeB fun _ => true).weak fun r b ⟨r1, b1, ⟨x, s', h1, h2, h3, h4⟩, h7, h8⟩ => by
  subst h4; subst h7; subst h8
  exact ⟨vT x, ⟨x, s', h1, h2, rfl, rfl⟩, h3⟩
theorem con_dType3 (l : List Int) (hrec : ∀ s, Dk l s -> TypeCon l 1 s) (s : DS) (h : Dk l s) (e7 : nextV l s 7 = 2) : Con Tryz.prog 63 [.pb 0 0, vi (2 : Nat), vb false] [deckA l s] fun r b => ∃ t s', TypeOk 2 t /\ Dk l s' /\ leV (r.freeze fun _ => true) (vT t) /\ b = [deckA l s'] := by
 refine Con.intro Tryz.func63 rfl Tryz.ntmps63 Tryz.results63 (by kernel_rfl) (by simp) 1 (by simp) ?_
 obtain ⟨D, hD⟩ : ∃ D : Int, ((2 : Nat) : Int) = D := ⟨_, rfl⟩
 rw [hD]
 unfold TypeCon at hrec
 have hD1 : ¬ D <= 1 := by omega
 have hw1 : IntKind.i64.wrap (D - 1) = 1 := by rw [wrap_in (by omega) (by omega)]; omega
 have hd1 : Dk l (nextS l s 7) := nextS_dk h
 have hg := seven_at (show 2 < 7 by omega)
 simp only [go_sem] at hg
 simp only [go_sem]
 refine CallU.boxes (i := 0) (is := []) (bx0 := [deckA l s]) (con_dNext l s 7 h) (by simp only [go_sem]) (by simp only [go_sem]) (by simp only [go_sem]) (by simp only [go_sem]) (by simp only [go_sem]) ?_
 rintro r b ⟨rfl, rfl⟩
 generalize nextS l s 7 = s1 at hd1 ⊢
 simp only [go_sem, e7, hD1]
 have hn3 := nextV_lt (l := l) (s := s1) (n := 3) (by omega)
 have hd3 : Dk l (nextS l s1 3) := nextS_dk hd1
 have hw3 : IntKind.i64.wrap (1 + nextV l s1 3) = 1 + nextV l s1 3 := wrap_in (by omega) (by omega)
 refine CallU.boxes (i := 0) (is := []) (bx0 := [deckA l s1]) (con_dNext l s1 3 hd1) (by simp only [go_sem]) (by simp only [go_sem]) (by simp only [go_sem]) (by simp only [go_sem]) (by simp only [go_sem]) ?_
 rintro r b ⟨rfl, rfl⟩
 simp only [go_sem, hw3]
 generalize nextS l s1 3 = s3 at hd3 ⊢
 obtain ⟨K, hK⟩ : ∃ K : Nat, 1 + nextV l s1 3 = (K : Int) := ⟨(1 + nextV l s1 3).toNat, by omega⟩
 rw [hK]
 refine LoopK.intro (fun p : List TD × DS => ⟨105, [(0, .pb 0 0), (1, vi D), (2, vb false), (6, .pb 1 0), (9, .pb 2 0), (10, vi ((K - p.1.length : Nat) : Int))], [deckA l p.2, [vi 0, vi 0, .nil, .nil], [vi 3, vi 0, .nil, .sl 5184 4 (p.1.map vT)]]⟩)
  (fun p => K - p.1.length) (fun p => p.1.length <= K /\ Dk l p.2 /\ ∀ t ∈ p.1, TypeOk 1 t) ([], s3) ⟨by simp, hd3, fun t ht => by cases ht⟩ ?_ ?_
 ·simp only [go_sem, List.map_nil, List.length_nil, Nat.sub_zero]
 rintro ⟨ts, s4⟩ ⟨h1, h2, h3⟩
 simp only at h1 h2 h3
 by_cases hlt : ts.length < K
 ·have hgt : (0 : Int) < ((K - ts.length : Nat) : Int) := by omega
  have hr4 : roomFor (ts.length + 1) 64 := by simp only [roomFor]; omega
  simp only [go_sem, hgt]
  refine DrawK.meetE (fun τ => ∃ t s', TypeOk 1 t /\ Dk l s' /\ τ = ⟨105, [(0, .pb 0 0), (1, vi D), (2, vb false), (6, .pb 1 0), (9, .pb 2 0), (10, vi ((K - ts.length : Nat) : Int))], [deckA l s', [vi 0, vi 0, .nil, .nil], [vi 3, vi 0, .nil, .sl 5184 4 ((ts ++ [t]).map vT)]]⟩) ?_ ?_
  ·refine DrawK.tree typeTree mixed (by kernel_rfl) ?_
   unfold typeTree
   simp only [go_sem, hw1]
   have e : ∀ t : TD, (ts ++ [t]).map vT = ts.map vT ++ [.ag [vi t.kind, vi t.size, vs 0 t.ranks, .sl 0 4 (t.parts.map vT)]] := fun t => by rw [List.map_append, List.map_cons, List.map_nil, vT_eq]
   simp only [go_sem]
   refine andK_mk ?_ ?_
   ·refine CallU.boxes (i := 0) (is := []) (bx0 := [deckA l s4]) (hrec s4 h2) (by simp only [go_sem]) (by simp only [go_sem]) (by simp only [go_sem]) (by simp only [go_sem]) (by simp only [go_sem]) ?_
    rintro r b ⟨t, s', ht, hd', rfl, rfl⟩
    rw [vT_eq]
    simp only [go_sem, hr4, List.length_map]
    refine meetT.intro _ ⟨t, s', ht, hd', rfl⟩ ?_
    simp only [go_sem, e]
   simp only [go_sem, hw1]
   refine andK_mk ?_ ?_
   ·refine CallU.boxes (i := 0) (is := []) (bx0 := [deckA l s4]) (hrec s4 h2) (by simp only [go_sem]) (by simp only [go_sem]) (by simp only [go_sem]) (by simp only [go_sem]) (by simp only [go_sem]) ?_
    rintro r b ⟨t, s', ht, hd', rfl, rfl⟩
    rw [vT_eq]
    simp only [go_sem, hr4, List.length_map]
    refine meetT.intro _ ⟨t, s', ht, hd', rfl⟩ ?_
    simp only [go_sem, e]
   simp only [go_sem, hw1]
   refine CallU.boxes (i := 0) (is := []) (bx0 := [deckA l s4]) (hrec s4 h2) (by simp only [go_sem]) (by simp only [go_sem]) (by simp only [go_sem]) (by simp only [go_sem]) (by simp only [go_sem]) ?_
   rintro r b ⟨t, s', ht, hd', rfl, rfl⟩
   rw [vT_eq]
   simp only [go_sem, hr4, List.length_map]
   refine andK_mk ?_ ?_
   ·refine meetT.intro _ ⟨t, s', ht, hd', rfl⟩ ?_
    simp only [go_sem, e]
   simp only [go_sem, hr4, List.length_map]
   refine meetT.intro _ ⟨t, s', ht, hd', rfl⟩ ?_
   simp only [go_sem, e]
  rintro τ ⟨t, s', ht, hd', rfl⟩
  have hw : IntKind.i64.wrap (((K - ts.length : Nat) : Int) - 1) = ((K - (ts ++ [t]).length : Nat) : Int) := by rw [List.length_append, List.length_singleton, wrap_in (by omega) (by omega)]; omega
  simp only [go_sem, hw]
  exact roundK.intro (ts ++ [t], s') ⟨by show (ts ++ [t]).length <= K; rw [List.length_append, List.length_singleton]; omega, hd', fun x hx => by
   rcases List.mem_append.1 hx with hx | hx
   ·exact h3 x hx
   ·rw [List.mem_singleton] at hx; subst hx; exact ht⟩ (by show K - (ts ++ [t]).length < K - ts.length; rw [List.length_append, List.length_singleton]; omega) (by simp only [go_sem])
 ·have ei : ts.length = K := by omega
  have hgt : ¬ (0 : Int) < ((K - ts.length : Nat) : Int) := by omega
  simp only [go_sem, hgt]
  exact ⟨.mk 3 0 [] ts, _, typeOk_prod (by omega) h3, h2, vT_parts _ _ _, rfl⟩
theorem con_dTypeS (l : List Int) (d : Nat) (hd : d = 1 \/ d = 2) (ih : d = 2 -> ∀ s, Dk l s -> TypeCon l 1 s) (s : DS) (h : Dk l s) : TypeCon l d s := by
 refine TypeCon.mk ?_
 by_cases hno : d = 2 /\ nextV l s 7 = 2
 ·obtain ⟨rfl, e7⟩ := hno
  exact con_dType3 l (ih rfl) s h e7
 refine Con.intro Tryz.func63 rfl Tryz.ntmps63 Tryz.results63 (by kernel_rfl) (by simp) 1 (by simp) ?_
 have h1d : 1 <= d := by omega
 obtain ⟨D, hD⟩ : ∃ D : Int, (d : Int) = D := ⟨_, rfl⟩
 rw [hD]
 have hn := nextV_lt (l := l) (s := s) (n := 7) (by omega)
 have hd1 : Dk l (nextS l s 7) := nextS_dk h
 simp only [go_sem]
 refine CallU.boxes (i := 0) (is := []) (bx0 := [deckA l s]) (con_dNext l s 7 h) (by simp only [go_sem]) (by simp only [go_sem]) (by simp only [go_sem]) (by simp only [go_sem]) (by simp only [go_sem]) ?_
 rintro r b ⟨rfl, rfl⟩
 obtain ⟨j, ej, hj⟩ : ∃ j : Nat, nextV l s 7 = j /\ j < 7 := ⟨(nextV l s 7).toNat, by omega, by omega⟩
 generalize nextS l s 7 = s1 at hd1 ⊢
 have hn2 := nextV_lt (l := l) (s := s1) (n := 2) (by omega)
 have hd2 : Dk l (nextS l s1 2) := nextS_dk hd1
 have hw2 : IntKind.i64.wrap (2 + nextV l s1 2) = 2 + nextV l s1 2 := wrap_in (by omega) (by omega)
 have hg := seven_at hj
 simp only [go_sem] at hg
 by_cases hD1 : D <= 1
 ·rcases (show j = 0 \/ j = 1 \/ j = 2 \/ j = 3 \/ j = 4 \/ j = 5 \/ j = 6 by omega) with rfl | rfl | rfl | rfl | rfl | rfl | rfl
  ·simp only [go_sem, ej, hg, hD1]
   exact ⟨.mk 1 0 [] [], _, typeOk_nat d h1d, hd1, vT_nil _ _, rfl⟩
  ·simp only [go_sem, ej, hg, hD1]
   refine CallU.boxes (i := 0) (is := []) (bx0 := [deckA l s1]) (con_dNext l s1 2 hd1) (by simp only [go_sem]) (by simp only [go_sem]) (by simp only [go_sem]) (by simp only [go_sem]) (by simp only [go_sem]) ?_
   rintro r b ⟨rfl, rfl⟩
   simp only [go_sem, hw2]
   exact ⟨.mk 2 (2 + nextV l s1 2) [] [], _, typeOk_label d h1d (.inl rfl) (by omega), nextS_dk hd1, vT_nil _ _, rfl⟩
  ·simp only [go_sem, ej, hg, hD1]
   refine CallU.boxes (i := 0) (is := []) (bx0 := [deckA l s1]) (con_dNext l s1 2 hd1) (by simp only [go_sem]) (by simp only [go_sem]) (by simp only [go_sem]) (by simp only [go_sem]) (by simp only [go_sem]) ?_
   rintro r b ⟨rfl, rfl⟩
   obtain ⟨j2, ej2, hj2⟩ : ∃ j2 : Nat, nextV l s1 2 = j2 /\ j2 < 2 := ⟨(nextV l s1 2).toNat, by omega, by omega⟩
   have hg2 := seven_at (show j2 < 7 by omega)
   simp only [go_sem] at hg2
   generalize nextS l s1 2 = s2 at hd2 ⊢
   rcases (show j2 = 0 \/ j2 = 1 by omega) with rfl | rfl
   ·simp only [go_sem, ej2, hg2]
    exact ⟨.mk 1 0 [] [], _, typeOk_nat d h1d, hd2, vT_nil _ _, rfl⟩
   ·simp only [go_sem, ej2, hg2]
    have hn3 := nextV_lt (l := l) (s := s2) (n := 2) (by omega)
    have hw3 : IntKind.i64.wrap (2 + nextV l s2 2) = 2 + nextV l s2 2 := wrap_in (by omega) (by omega)
    refine CallU.boxes (i := 0) (is := []) (bx0 := [deckA l s2]) (con_dNext l s2 2 hd2) (by simp only [go_sem]) (by simp only [go_sem]) (by simp only [go_sem]) (by simp only [go_sem]) (by simp only [go_sem]) ?_
    rintro r b ⟨rfl, rfl⟩
    simp only [go_sem, hw3]
    exact ⟨.mk 2 (2 + nextV l s2 2) [] [], _, typeOk_label d h1d (.inl rfl) (by omega), nextS_dk hd2, vT_nil _ _, rfl⟩
  ·simp only [go_sem, ej, hg, hD1]
   refine CallU.boxes (i := 0) (is := []) (bx0 := [deckA l s1]) (con_dNext l s1 2 hd1) (by simp only [go_sem]) (by simp only [go_sem]) (by simp only [go_sem]) (by simp only [go_sem]) (by simp only [go_sem]) ?_
   rintro r b ⟨rfl, rfl⟩
   obtain ⟨j2, ej2, hj2⟩ : ∃ j2 : Nat, nextV l s1 2 = j2 /\ j2 < 2 := ⟨(nextV l s1 2).toNat, by omega, by omega⟩
   have hg2 := seven_at (show j2 < 7 by omega)
   simp only [go_sem] at hg2
   generalize nextS l s1 2 = s2 at hd2 ⊢
   rcases (show j2 = 0 \/ j2 = 1 by omega) with rfl | rfl
   ·simp only [go_sem, ej2, hg2]
    exact ⟨.mk 1 0 [] [], _, typeOk_nat d h1d, hd2, vT_nil _ _, rfl⟩
   ·simp only [go_sem, ej2, hg2]
    have hn3 := nextV_lt (l := l) (s := s2) (n := 2) (by omega)
    have hw3 : IntKind.i64.wrap (2 + nextV l s2 2) = 2 + nextV l s2 2 := wrap_in (by omega) (by omega)
    refine CallU.boxes (i := 0) (is := []) (bx0 := [deckA l s2]) (con_dNext l s2 2 hd2) (by simp only [go_sem]) (by simp only [go_sem]) (by simp only [go_sem]) (by simp only [go_sem]) (by simp only [go_sem]) ?_
    rintro r b ⟨rfl, rfl⟩
    simp only [go_sem, hw3]
    exact ⟨.mk 2 (2 + nextV l s2 2) [] [], _, typeOk_label d h1d (.inl rfl) (by omega), nextS_dk hd2, vT_nil _ _, rfl⟩
  ·simp only [go_sem, ej, hg, hD1]
   refine CallU.boxes (i := 0) (is := []) (bx0 := [deckA l s1]) (con_dNext l s1 2 hd1) (by simp only [go_sem]) (by simp only [go_sem]) (by simp only [go_sem]) (by simp only [go_sem]) (by simp only [go_sem]) ?_
   rintro r b ⟨rfl, rfl⟩
   obtain ⟨j2, ej2, hj2⟩ : ∃ j2 : Nat, nextV l s1 2 = j2 /\ j2 < 2 := ⟨(nextV l s1 2).toNat, by omega, by omega⟩
   have hg2 := seven_at (show j2 < 7 by omega)
   simp only [go_sem] at hg2
   generalize nextS l s1 2 = s2 at hd2 ⊢
   rcases (show j2 = 0 \/ j2 = 1 by omega) with rfl | rfl
   ·simp only [go_sem, ej2, hg2]
    exact ⟨.mk 1 0 [] [], _, typeOk_nat d h1d, hd2, vT_nil _ _, rfl⟩
   ·simp only [go_sem, ej2, hg2]
    have hn3 := nextV_lt (l := l) (s := s2) (n := 2) (by omega)
    have hw3 : IntKind.i64.wrap (2 + nextV l s2 2) = 2 + nextV l s2 2 := wrap_in (by omega) (by omega)
    refine CallU.boxes (i := 0) (is := []) (bx0 := [deckA l s2]) (con_dNext l s2 2 hd2) (by simp only [go_sem]) (by simp only [go_sem]) (by simp only [go_sem]) (by simp only [go_sem]) (by simp only [go_sem]) ?_
    rintro r b ⟨rfl, rfl⟩
    simp only [go_sem, hw3]
    exact ⟨.mk 2 (2 + nextV l s2 2) [] [], _, typeOk_label d h1d (.inl rfl) (by omega), nextS_dk hd2, vT_nil _ _, rfl⟩
  ·simp only [go_sem, ej, hg, hD1]
   exact ⟨.mk 6 2 [] [], _, typeOk_label d h1d (.inr rfl) (by omega), hd1, vT_nil _ _, rfl⟩
  ·simp only [go_sem, ej, hg, hD1]
   refine CallU.boxes (i := 0) (is := []) (bx0 := [deckA l s1]) (con_dSmallF l s1 2 1 hd1 (by omega) (by omega)) (by simp only [go_sem]) (by simp only [go_sem]) (by simp only [go_sem]) (by simp only [go_sem]) (by simp only [go_sem]) ?_
   rintro r b ⟨rfl, rfl⟩
   simp only [go_sem]
   exact ⟨.mk 7 2 (smV l s1 1 2) [], _, typeOk_prio d h1d (smV_len 2) (smV_low (by omega) 2), smS_dk hd1 2, vT_ranks _ _ _, rfl⟩
 ·have hw1 : IntKind.i64.wrap (D - 1) = 1 := by rw [wrap_in (by omega) (by omega)]; omega
  have e2 : d = 2 := by omega
  have hrec := ih e2
  unfold TypeCon at hrec
  subst e2
  rcases (show j = 0 \/ j = 1 \/ j = 2 \/ j = 3 \/ j = 4 \/ j = 5 \/ j = 6 by omega) with rfl | rfl | rfl | rfl | rfl | rfl | rfl
  ·simp only [go_sem, ej, hg, hD1]
   exact ⟨.mk 1 0 [] [], _, typeOk_nat 2 h1d, hd1, vT_nil _ _, rfl⟩
  ·simp only [go_sem, ej, hg, hD1]
   refine CallU.boxes (i := 0) (is := []) (bx0 := [deckA l s1]) (con_dNext l s1 2 hd1) (by simp only [go_sem]) (by simp only [go_sem]) (by simp only [go_sem]) (by simp only [go_sem]) (by simp only [go_sem]) ?_
   rintro r b ⟨rfl, rfl⟩
   simp only [go_sem, hw2]
   exact ⟨.mk 2 (2 + nextV l s1 2) [] [], _, typeOk_label 2 h1d (.inl rfl) (by omega), nextS_dk hd1, vT_nil _ _, rfl⟩
  ·exact absurd ⟨rfl, by omega⟩ hno
  ·simp only [go_sem, ej, hg, hD1, hw1]
   refine CallU.boxes (i := 0) (is := []) (bx0 := [deckA l s1]) (hrec s1 hd1) (by simp only [go_sem]) (by simp only [go_sem]) (by simp only [go_sem]) (by simp only [go_sem]) (by simp only [go_sem]) ?_
   rintro r b ⟨t, s', ht, hd', rfl, rfl⟩
   rw [vT_eq]
   simp only [go_sem]
   exact ⟨.mk 4 0 [] [t], _, typeOk_list (by omega) ht, hd', vT_one _ _ _, rfl⟩
  ·simp only [go_sem, ej, hg, hD1, hw1]
   refine CallU.boxes (i := 0) (is := []) (bx0 := [deckA l s1]) (hrec s1 hd1) (by simp only [go_sem]) (by simp only [go_sem]) (by simp only [go_sem]) (by simp only [go_sem]) (by simp only [go_sem]) ?_
   rintro r b ⟨t, s', ht, hd', rfl, rfl⟩
   rw [vT_eq]
   simp only [go_sem]
   exact ⟨.mk 5 0 [] [t], _, typeOk_list (by omega) ht, hd', vT_one _ _ _, rfl⟩
  ·simp only [go_sem, ej, hg, hD1]
   exact ⟨.mk 6 2 [] [], _, typeOk_label 2 h1d (.inr rfl) (by omega), hd1, vT_nil _ _, rfl⟩
  ·simp only [go_sem, ej, hg, hD1]
   refine CallU.boxes (i := 0) (is := []) (bx0 := [deckA l s1]) (con_dSmallF l s1 2 1 hd1 (by omega) (by omega)) (by simp only [go_sem]) (by simp only [go_sem]) (by simp only [go_sem]) (by simp only [go_sem]) (by simp only [go_sem]) ?_
   rintro r b ⟨rfl, rfl⟩
   simp only [go_sem]
   exact ⟨.mk 7 2 (smV l s1 1 2) [], _, typeOk_prio 2 h1d (smV_len 2) (smV_low (by omega) 2), smS_dk hd1 2, vT_ranks _ _ _, rfl⟩
theorem con_dTypeF (l : List Int) (s : DS) (h : Dk l s) : TypeCon l 2 s :=
 con_dTypeS l 2 (.inr rfl) (fun _ s h => con_dTypeS l 1 (.inl rfl) (fun e => by omega) s h) s h
theorem loose_kids {l : List Int} {d : Nat} {s : DS} {t : TD} {most : Int} (hr : rightT d t = true) (hm : 0 <= most /\ most <= 100) : (looseP l d s t most).1.kids.length <= 1000 := by
 cases d with
 | zero => simp [rightT] at hr
 | succ d =>
  unfold looseP
  split
  ·exact Nat.zero_le _
  ·split
   ·exact Nat.zero_le _
   ·split
    ·have := wdV_len (l := l) (s := s) (letters := t.size) (most := most) hm.1
     show ((wdV l s t.size most).map _).length <= 1000
     rw [List.length_map]; omega
    ·split
     ·rename_i h3
      have hp : t.parts.length <= 8 := by
       rw [rightT] at hr
       by_cases hb : 0 < t.ranks.length /\ t.kind ≠ 7
       ·rw [if_pos hb] at hr; cases hr
       ·rw [if_neg hb, if_neg (show ¬ t.kind = 1 by omega), if_neg (show ¬ (t.kind = 2 \/ t.kind = 6) by omega), if_neg (show ¬ t.kind = 7 by omega), if_pos h3] at hr
        simp only [Bool.and_eq_true, decide_eq_true_eq] at hr
        exact hr.1.2
      show (dealN _ s t.parts.length).1.length <= 1000
      rw [dealN_len]; omega
     ·split
      ·have := nextV_lt (l := l) (s := s) (n := 4) (by omega)
       exact treeP_len (by omega)
      ·have hn := nextV_lt (l := l) (s := s) (n := most + 1) (by omega)
       show (dealN _ _ (nextV l s (most + 1)).toNat).1.length <= 1000
       rw [dealN_len]; omega
theorem sort_kids {t : TD} {v : CV} (h : v.kids.length <= 1000) : (sortF t v).1.kids.length <= 1000 := by
 unfold sortF
 split
 ·exact Nat.zero_le _
 ·split
  ·rw [srt_eq]
   show (if t.kind = 5 then isortV (srtK v t) else srtK v t).length <= 1000
   split
   ·unfold isortV; rw [isortN_len, srtK_len]; exact h
   ·rw [srtK_len]; exact h
  ·exact Nat.zero_le _
theorem valF_kids {l : List Int} {s : DS} {t : TD} (hr : rightT 8 t = true) : (valF l s t).1.kids.length <= 1000 := by
 unfold valF
 split
 ·exact sort_kids (loose_kids hr (by omega))
 ·exact sort_kids (loose_kids hr (by omega))
end Go.AM
