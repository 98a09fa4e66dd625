/-
 Walks: BranchingFinds (chapter 21).
-/
import Derived.Test.YtiklkcjkmhkgjaaGreatX2
namespace Go.AM
open Go Go.Proofs Go.RowKit
set_option maxRecDepth 100000
set_option maxHeartbeats 8000000
theorem ders_len {np : Nat} {rs : List RD} : ∀ {l : List CV} {t : List (Int × List Int)}, dersE np rs l = .ok t -> t.length = l.length
 | [], t, h => by simp [dersE] at h; subst h; rfl
 | x :: l, t, h => by
  rw [dersE] at h
  cases hx : derE np rs x with
  | error e => rw [hx] at h; simp [catE] at h
  | ok s =>
   cases hl : dersE np rs l with
   | error e => rw [hx, hl] at h; simp [catE] at h
   | ok u =>
    rw [hx, hl] at h
    simp only [catE, Except.ok.injEq] at h
    subst h
    rw [List.length_cons, List.length_cons, ders_len hl]
theorem ders_cons {np : Nat} {rs : List RD} {x : CV} {l : List CV} {t : List (Int × List Int)} (h : dersE np rs (x :: l) = .ok t) : ∃ s u, t = s :: u /\ derE np rs x = .ok s /\ dersE np rs l = .ok u := by
 rw [dersE] at h
 cases hx : derE np rs x with
 | error e => rw [hx] at h; simp [catE] at h
 | ok s =>
  cases hl : dersE np rs l with
  | error e => rw [hx, hl] at h; simp [catE] at h
  | ok u =>
   rw [hx, hl] at h
   simp only [catE, Except.ok.injEq] at h
   exact ⟨s, u, h.symm, rfl, rfl⟩
theorem der_of {np : Nat} {rs : List RD} : ∀ (N : Nat) (a : CV) (s : Int × List Int), szC a <= N -> derE np rs a = .ok s -> DerB (rs.map (ruBra np)) (szC a) s
 | 0, a, _, h, _ => by cases a; simp [szC] at h
 | N + 1, .mk r kids, s, h, hd => by
  rw [derE] at hd
  obtain ⟨k, hk, h1, h2, h3, h4⟩ := ruleE_ok hd
  have hm : rs[r.toNat]! ∈ rs := by rw [getElem!_pos rs _ (by omega)]; exact List.getElem_mem _
  have hrm : ruBra np rs[r.toNat]! ∈ rs.map (ruBra np) := List.mem_map_of_mem hm
  have hpl := prem_le rs[r.toNat]!
  have hkl := ders_len hk
  generalize rs[r.toNat]! = q at h3 h4 hrm hpl
  have hp : (ruBra np q).p = (premB q).length := rfl
  have ha : (ruBra np q).ap = appB np q := rfl
  rw [szC] at h ⊢
  match kids, hk, hkl, h with
  | [], hk, hkl, h =>
   have : k = [] := List.length_eq_zero_iff.1 (by simpa using hkl)
   subst this
   exact .zero _ s hrm (by rw [hp, <- h3]; rfl) (by rw [ha]; exact h4)
  | [x], hk, hkl, h =>
   obtain ⟨s1, u, rfl, e1, e2⟩ := ders_cons hk
   have : u = [] := List.length_eq_zero_iff.1 (by simpa using ders_len e2)
   subst this
   simp only [szCs] at h ⊢
   have := DerB.one _ (szC x) s1 s hrm (by rw [hp, <- h3]; rfl) (der_of N x s1 (by omega) e1) (by rw [ha]; exact h4)
   rwa [show 1 + (szC x + 0) = szC x + 1 by omega]
  | [x, y], hk, hkl, h =>
   obtain ⟨s1, u, rfl, e1, e2⟩ := ders_cons hk
   obtain ⟨s2, v, rfl, e3, e4⟩ := ders_cons e2
   have : v = [] := List.length_eq_zero_iff.1 (by simpa using ders_len e4)
   subst this
   simp only [szCs] at h ⊢
   have := DerB.two _ (szC x) (szC y) s1 s2 s hrm (by rw [hp, <- h3]; exact Nat.le_refl 2) (der_of N x s1 (by omega) e1) (der_of N y s2 (by omega) e3) (by rw [ha]; exact h4)
   rwa [show 1 + (szC x + (szC y + 0)) = szC x + szC y + 1 by omega]
  | x :: y :: z :: l, hk, hkl, h => simp only [List.length_cons] at hkl; omega
theorem derive_known {m : MD} {a c : CV} (hF : (famM m 3).2 = false) (hs : szC a <= 3) (h : deriveF m a = .ok c) : c ∈ (famM m 3).1.known := by
 unfold deriveF at h
 split at h
 ·cases h
 ·split at h
  ·cases h
  ·cases hd : derE m.places.length m.rules a with
   | error e => rw [hd] at h; cases h
   | ok s =>
    rw [hd] at h
    have hc : c = valB s := by injection h with h; exact h.symm
    subst hc
    obtain ⟨j, _, _, hj⟩ := der_found (val := valB) (ins := insV) ins_mem (fun s t => val_inj) hF (der_of _ a s (Nat.le_refl _) hd) hs
    exact (all_inv (ins_mem (cmp := cmpV)) 3 hF).low j s hj
theorem derive_okC {m : MD} (hm : kindF m = 0 -> BraM m) {a c : CV} (h : deriveF m a = .ok c) : c.Ok := by
 unfold deriveF at h
 split at h
 ·cases h
 ·rename_i hk
  have hm := hm (Classical.byContradiction fun hn => hk hn)
  split at h
  ·cases h
  ·cases hd : derE m.places.length m.rules a with
   | error e => rw [hd] at h; cases h
   | ok s =>
    rw [hd] at h
    have hc : c = valB s := by injection h with h; exact h.symm
    subst hc
    have := hm.places
    exact val_ok (by rw [(derE_sm hm.rules hd).1]; omega)
theorem derive_err {m : MD} {a : CV} {e : Int} (h : deriveF m a = .error e) : e ≠ 0 := by
 unfold deriveF at h
 split at h
 ·rename_i hk; injection h with h; rw [<- h]; exact hk
 ·split at h
  ·injection h with h; omega
  ·cases hd : derE m.places.length m.rules a with
   | error e' =>
    rw [hd] at h
    have hc : e' = e := by injection h
    subst hc
    exact derE_err a hd
   | ok s => rw [hd] at h; cases h
theorem famOk_stage {m : MD} {k : Nat} (hp : m.places.length <= 1000) : ∀ (rs : List RD) {F : FamB (Int × List Int) CV}, (∀ r ∈ rs, BrR m.places.length r) -> FamOk m.places.length F -> FamOk m.places.length (stageB valB insV F k (rs.map (ruBra m.places.length))).1
 | [], _, _, h => h
 | r :: rs, F, hr, h => by
  have h1 := famOk_st (N := 0) (k := k) hp (hr r (by simp)) h
  rw [stage_cons m 0 k F r rs]
  split
  ·exact h1
  ·exact famOk_stage hp rs (fun q hq => hr q (by simp [hq])) h1
theorem famOk_M {m : MD} (hm : BraM m) : ∀ k, (famM m k).2 = false -> FamOk m.places.length (famM m k).1
 | 0, _ => famOk_empty _
 | k + 1, h => by
  have h0 : (famM m k).2 = false := (all_lim h).1
  rw [famM_succ m k h0]
  exact famOk_stage hm.places.2 m.rules hm.rules (famOk_M hm k h0)
def fndA (more : List CV) (c : CV) (g : Int) (i : Nat) (b : Bool) : Prop := (g ≠ 0 -> b = true) /\ ∀ k, k < i -> more[k]! = c -> b = true
theorem go_step {few more : List CV} {i at_ : Nat} (h : i < more.length) : goB few at_ (more.drop i) = goB few (if few[at_]? = some more[i]! then at_ + 1 else at_) (more.drop (i + 1)) := by
 have e1 : more.drop i = more[i]! :: more.drop (i + 1) := by rw [<- List.getElem_cons_drop h, <- getElem!_pos more i h]
 rw [e1, goB]
theorem con_findsLaw (l : List Int) : Con Tryz.prog 4 [vs 0 l] [] fun r _ => r = vb true := by
 refine Con.intro Tryz.func4 rfl Tryz.ntmps4 Tryz.results4 (by kernel_rfl) (by simp) 0 (by simp) ?_
 simp only [go_sem]
 refine CallU.free con_awake (by simp only [go_sem]) (by simp only [go_sem]) ?_
 rintro z bx rfl
 simp only [go_sem]
 refine CallU.free (con_few21 l) (by simp only [go_sem]) (by simp only [go_sem]) ?_
 rintro z bx rfl
 by_cases hf : (l.length : Int) <= 400
 case neg =>
  simp only [hf, decide_false]
  simp only [go_sem]
  refine CallU.free con_awake (by simp only [go_sem]) (by simp only [go_sem]) ?_
  rintro z bx rfl
  simp only [go_sem]
 have hd0 := deck21 hf
 simp only [hf, decide_true]
 simp only [go_sem]
 refine CallU.news (bx0 := []) (con_new21 l) (by simp only [go_sem]) (by simp only [go_sem]) (by simp only [go_sem]) (by simp only [go_sem]) (by simp only [go_sem]) ?_
 rintro r b ⟨rfl, rfl⟩
 generalize seed21 = s0 at hd0
 simp only [go_sem]
 refine CallU.boxes (i := 0) (is := []) (bx0 := [deckA l s0]) (con_dModelZ l s0 hd0) (by simp only [go_sem]) (by simp only [go_sem]) (by simp only [go_sem]) (by simp only [go_sem]) (by simp only [go_sem]) ?_
 rintro r b ⟨ns, np, nl, ra, lv, ag, rules, st, s1, hG, hd1, rfl, rfl⟩
 have hk0 := dealt_bra hG
 have hl0 := hG.len
 have hml : (dealtG 6 ns np nl ra lv ag rules st).rules.length <= 4 := hG.few
 clear hG hd0
 generalize dealtG 6 ns np nl ra lv ag rules st = m at hml hk0 hl0
 have hdr := con_dDer l m (by omega) 1 3 s1 (by omega) (by omega) hd1
 have hdl := dl_three (drF_dl (l := l) (rs := m.rules) 2 3 s1 hd1)
 generalize (drF l m.rules (1 + 1) 3 s1).1 = x at hdr hdl
 generalize (drF l m.rules (1 + 1) 3 s1).2 = s2 at hdr
 have hxo : x.Ok := (sz_slim 3 x hdl (by omega)).ok
 have hcn : cntC x 12 = szC x := by unfold cntC; omega
 have hbs := con_bSize x hxo
 rw [hcn] at hbs
 have hsz3 : ¬ (3 : Int) < (szC x : Nat) := by omega
 have hc2 := con_bAll m 2 bra_of hl0
 have hc3 := con_bAll m 3 bra_of hl0
 have hrc := Six.con_rCheck6 m hl0 (kind_six hk0).2
 rw [(kind_six hk0).1] at hrc
 have hde : Con Tryz.prog 15 [vM m, vV x] [] fun r _ => ∃ c g, r = .tup [vV c, vi g] /\ c.Ok /\ (g = 0 -> (famM m 3).2 = false -> c ∈ (famM m 3).1.known) :=
  (con_bDerive m bra_of hl0 x hxo).weak fun r _ hr => by
   subst hr
   cases hX : deriveF m x with
   | ok c => exact ⟨_, ⟨c, 0, rfl, derive_okC bra_of hX, fun _ hF => derive_known hF hdl hX⟩, leV_refl _⟩
   | error e =>
    refine ⟨_, ⟨.mk 0 [], e, rfl, .mk 0 [] (by simp) (fun x hx => by cases hx), fun he hF => ?_⟩, ?_⟩
    ·exact absurd he (derive_err hX)
    ·rw [vV_eq]
     exact leV_tup ⟨leV_ag ⟨leV_refl _, leV_nil _ _, trivial⟩, leV_refl _, trivial⟩
 have hx2 : allX m 2 = if (famM m 2).2 = true then .error 1 else .ok (famM m 2).1.known := by
  unfold allX
  rw [if_neg (fun h => h hk0), if_neg (by omega)]; rfl
 have hx3 : allX m 3 = if (famM m 3).2 = true then .error 1 else .ok (famM m 3).1.known := by
  unfold allX
  rw [if_neg (fun h => h hk0), if_neg (by omega)]; rfl
 rw [vV_eq x] at *
 have hbr := bra_of hk0
 simp only [vM, cM, vss] at hdr hc2 hc3 hrc hde
 simp only [go_sem, vM, cM, vss]
 refine CallU.boxes (i := 0) (is := []) (bx0 := [deckA l s1]) hdr (by simp only [go_sem]) (by simp only [go_sem]) (by simp only [go_sem]) (by simp only [go_sem]) (by simp only [go_sem]) ?_
 rintro r b ⟨rfl, rfl⟩
 simp only [go_sem]
 refine CallU.free hc2 (by simp only [go_sem]) (by simp only [go_sem]) ?_
 rintro z bx rfl
 cases h2 : (famM m 2).2 with
 | true =>
  rw [hx2, if_pos h2]
  simp only [go_sem, allA]
  refine CallU.free hc3 (by simp only [go_sem]) (by simp only [go_sem]) ?_
  rintro z bx rfl
  cases h3 : (famM m 3).2 with
  | true =>
   rw [hx3, if_pos h3]
   simp only [go_sem, allA]
  | false =>
   rw [hx3, if_neg (by simp [h3])]
   simp only [go_sem, allA]
 | false =>
 rw [hx2, if_neg (by simp [h2])]
 simp only [go_sem, allA]
 refine CallU.free hc3 (by simp only [go_sem]) (by simp only [go_sem]) ?_
 rintro z bx rfl
 cases h3 : (famM m 3).2 with
 | true =>
  rw [hx3, if_pos h3]
  simp only [go_sem, allA]
 | false =>
 rw [hx3, if_neg (by simp [h3])]
 simp only [go_sem, allA]
 have hO2 := famOk_M hbr 2 h2
 have hO3 := famOk_M hbr 3 h3
 have hgo : goB (famM m 2).1.known 0 (famM m 3).1.known = (famM m 2).1.known.length := all_go ordV h3
 have hfL := hO2.few
 have hmL := hO3.few
 have hfO := hO2.ok
 have hmO := hO3.ok
 simp only [h3, forall_const] at hde
 clear hc2 hc3 hx2 hx3 hO2 hO3 h2 h3 hdr hd1
 generalize (famM m 2).1.known = few at *
 generalize (famM m 3).1.known = more at *
 refine CallU.free hde (by simp only [go_sem]) (by simp only [go_sem]) ?_
 rintro z bx ⟨c, g, rfl, hco, hcg⟩
 rw [vV_eq c]
 apply share3 (T := fun τ => ∃ b, (g ≠ 0 -> b = true) /\ τ.le ⟨105, [(3, .pb 0 0), (4, .pb 1 0), (6, .sl 0 2 (few.map vV)), (10, .pb 3 0), (12, vb b), (13, vi 0), (66, .sl 0 2 (more.map vV)), (67, vi more.length), (68, vi 0)], [deckA l s2, [vi m.kind, .sl 0 1 (m.states.map vStr), .sl 0 1 (m.places.map vStr), .sl 0 1 (m.letters.map vStr), vs 0 m.ranks, vi m.levels, vi m.age, .sl 0 14 (m.rules.map vRule), vi m.start.n, .sl 0 2 (m.start.kids.map vV)], [vi x.n, .sl 0 2 (x.kids.map vV)], [vi c.n, .sl 0 2 (c.kids.map vV)]]⟩)
 case h =>
  intro hsh
  by_cases hg : g = 0
  ·subst hg
   simp only [go_sem]
   refine CallU.free hbs (by simp only [go_sem]) (by simp only [go_sem]) ?_
   rintro z bx rfl
   simp only [go_sem, hsz3, List.length_map]
   refine hsh _ ⟨false, fun h => absurd rfl h, ?_⟩
   simp only [go_sem]
   all_goals exact leB_self _
  ·have hg' : (g != 0) = true := bne_iff_ne.2 hg
   simp only [go_sem, hg', List.length_map]
   refine hsh _ ⟨true, fun _ => rfl, ?_⟩
   simp only [go_sem]
   all_goals exact leB_self _
 case key =>
  rintro τ ⟨b0, hb0, hle⟩
  refine LoopK.intro (fun p : Nat × Bool × Nat => ⟨105, [(3, .pb 0 0), (4, .pb 1 0), (6, .sl 0 2 (few.map vV)), (10, .pb 3 0), (12, vb p.2.1), (13, vi p.2.2), (66, .sl 0 2 (more.map vV)), (67, vi more.length), (68, vi p.1)], deckA l s2 :: [vi m.kind, .sl 0 1 (m.states.map vStr), .sl 0 1 (m.places.map vStr), .sl 0 1 (m.letters.map vStr), vs 0 m.ranks, vi m.levels, vi m.age, .sl 0 14 (m.rules.map vRule), vi m.start.n, .sl 0 2 (m.start.kids.map vV)] :: [vi x.n, .sl 0 2 (x.kids.map vV)] :: [vi c.n, .sl 0 2 (c.kids.map vV)] :: Rk 2 p.1⟩)
   (fun p => more.length - p.1) (fun p => p.1 <= more.length /\ fndA more c g p.1 p.2.1 /\ p.2.2 <= few.length /\ goB few p.2.2 (more.drop p.1) = few.length) (0, b0, 0) ⟨Nat.zero_le _, ⟨hb0, fun k hk => by cases hk⟩, Nat.zero_le _, hgo⟩ hle ?_
  clear hle hb0
  rintro ⟨i, b, at_⟩ ⟨hi, hA, hat, hG⟩
  simp only at hi hA hat hG
  have hB := Rk_len 2 i
  have n0 := fun L : List (List AV) => app_at0 (L := L) hB
  have s0 := fun (L : List (List AV)) z => app_set0 (L := L) (z := z) hB
  by_cases h : i < more.length
  case neg =>
   obtain rfl : i = more.length := by omega
   rw [List.drop_length, goB] at hG
   have hbt : b = true := by
    by_cases hg : g = 0
    ·obtain ⟨k, hk, e⟩ := List.getElem_of_mem (hcg hg)
     exact hA.2 k hk (by rw [getElem!_pos more k hk]; exact e)
    ·exact hA.1 hg
   subst hbt
   subst hG
   simp only [go_sem, h, List.length_map, beq_self_eq_true]
   refine CallU.free hrc (by simp only [go_sem]) (by simp only [go_sem]) ?_
   rintro z bx rfl
   simp only [go_sem, beq_self_eq_true]
  have hgx := getvV h
  have hwi : IntKind.i64.wrap (i + 1) = i + 1 := wrap_in (by omega) (by omega)
  have ky := hmO _ (mem_bangI h)
  have hst := go_step (few := few) (at_ := at_) h
  obtain ⟨y, hy⟩ : ∃ y, y = more[i]! := ⟨_, rfl⟩
  rw [<- hy] at hgx ky hst
  have hs1 := con_rsame21 y c ky hco
  rw [vV_eq y, vV_eq c] at hs1
  simp only [go_sem, h, hgx, hB, n0, s0]
  cases b with
  | true =>
   simp only [go_sem]
   by_cases h5 : at_ < few.length
   case neg =>
    have e5 : few[at_]? = none := List.getElem?_eq_none (by omega)
    rw [e5, if_neg (by simp)] at hst
    refine DrawK.walk 10 mixed (by kernel_rfl) ?_
    simp only [go_sem, h5, hwi, List.length_map]
    refine roundK.intro (i + 1, true, at_) ⟨by show i + 1 <= _; omega, ⟨fun _ => rfl, fun _ _ _ => rfl⟩, hat, hst.symm.trans hG⟩ (by show more.length - (i + 1) < more.length - i; omega) ?_
    simp only [go_sem, Rk_succ]
    all_goals exact leB_RkA (x := [[_, _]]) (y := [List.replicate 2 .any]) ⟨⟨leV_any _, leV_any _, trivial⟩, trivial⟩
   have hgf := getvV h5
   have kf := hfO _ (mem_bangI h5)
   have e5 : few[at_]? = some few[at_]! := by rw [List.getElem?_eq_getElem h5, getElem!_pos few at_ h5]
   have hwt : IntKind.i64.wrap (at_ + 1) = at_ + 1 := wrap_in (by omega) (by omega)
   rw [e5] at hst
   generalize few[at_]! = u at hgf kf hst
   have hs2 := con_rsame21 u y kf ky
   rw [vV_eq u, vV_eq y] at hs2
   by_cases huy : u = y
   case pos =>
    have hq : (cmpV u y == 0) = true := beq_iff_eq.2 ((ordV.zero u y).2 huy)
    rw [if_pos (by rw [huy])] at hst
    refine DrawK.walk 10 mixed (by kernel_rfl) ?_
    simp only [go_sem, h5, hgf, n0, List.length_map]
    refine CallU.free hs2 (by simp only [go_sem]) (by simp only [go_sem]) ?_
    rintro z bx rfl
    simp only [go_sem, hq, hwt, hwi]
    refine roundK.intro (i + 1, true, at_ + 1) ⟨by show i + 1 <= _; omega, ⟨fun _ => rfl, fun _ _ _ => rfl⟩, by show at_ + 1 <= _; omega, hst.symm.trans hG⟩ (by show more.length - (i + 1) < more.length - i; omega) ?_
    simp only [go_sem, Rk_succ]
    all_goals exact leB_RkA (x := [[_, _]]) (y := [List.replicate 2 .any]) ⟨⟨leV_any _, leV_any _, trivial⟩, trivial⟩
   have hq : (cmpV u y == 0) = false := beq_eq_false_iff_ne.2 fun h => huy ((ordV.zero u y).1 h)
   rw [if_neg (fun h => huy (Option.some.inj h))] at hst
   refine DrawK.walk 10 mixed (by kernel_rfl) ?_
   simp only [go_sem, h5, hgf, n0, List.length_map]
   refine CallU.free hs2 (by simp only [go_sem]) (by simp only [go_sem]) ?_
   rintro z bx rfl
   simp only [go_sem, hq, hwi]
   refine roundK.intro (i + 1, true, at_) ⟨by show i + 1 <= _; omega, ⟨fun _ => rfl, fun _ _ _ => rfl⟩, hat, hst.symm.trans hG⟩ (by show more.length - (i + 1) < more.length - i; omega) ?_
   simp only [go_sem, Rk_succ]
   all_goals exact leB_RkA (x := [[_, _]]) (y := [List.replicate 2 .any]) ⟨⟨leV_any _, leV_any _, trivial⟩, trivial⟩
  | false =>
   simp only [go_sem, n0]
   refine CallU.free hs1 (by simp only [go_sem]) (by simp only [go_sem]) ?_
   rintro z bx rfl
   simp only [go_sem]
   have hA2 : fndA more c g (i + 1) (cmpV y c == 0) := ⟨fun hg => absurd (hA.1 hg) (by simp), fun k hk e => by
    by_cases hki : k = i
    ·subst hki
     rw [<- hy] at e
     rw [e]
     exact beq_iff_eq.2 ((ordV.zero c c).2 rfl)
    ·exact absurd (hA.2 k (by omega) e) (by simp)⟩
   by_cases h5 : at_ < few.length
   case neg =>
    have e5 : few[at_]? = none := List.getElem?_eq_none (by omega)
    rw [e5, if_neg (by simp)] at hst
    refine DrawK.walk 10 mixed (by kernel_rfl) ?_
    simp only [go_sem, h5, hwi, List.length_map]
    refine roundK.intro (i + 1, cmpV y c == 0, at_) ⟨by show i + 1 <= _; omega, hA2, hat, hst.symm.trans hG⟩ (by show more.length - (i + 1) < more.length - i; omega) ?_
    simp only [go_sem, Rk_succ]
    all_goals exact leB_RkA (x := [[_, _]]) (y := [List.replicate 2 .any]) ⟨⟨leV_any _, leV_any _, trivial⟩, trivial⟩
   have hgf := getvV h5
   have kf := hfO _ (mem_bangI h5)
   have e5 : few[at_]? = some few[at_]! := by rw [List.getElem?_eq_getElem h5, getElem!_pos few at_ h5]
   have hwt : IntKind.i64.wrap (at_ + 1) = at_ + 1 := wrap_in (by omega) (by omega)
   rw [e5] at hst
   generalize few[at_]! = u at hgf kf hst
   have hs2 := con_rsame21 u y kf ky
   rw [vV_eq u, vV_eq y] at hs2
   by_cases huy : u = y
   case pos =>
    have hq : (cmpV u y == 0) = true := beq_iff_eq.2 ((ordV.zero u y).2 huy)
    rw [if_pos (by rw [huy])] at hst
    refine DrawK.walk 10 mixed (by kernel_rfl) ?_
    simp only [go_sem, h5, hgf, n0, List.length_map]
    refine CallU.free hs2 (by simp only [go_sem]) (by simp only [go_sem]) ?_
    rintro z bx rfl
    simp only [go_sem, hq, hwt, hwi]
    refine roundK.intro (i + 1, cmpV y c == 0, at_ + 1) ⟨by show i + 1 <= _; omega, hA2, by show at_ + 1 <= _; omega, hst.symm.trans hG⟩ (by show more.length - (i + 1) < more.length - i; omega) ?_
    simp only [go_sem, Rk_succ]
    all_goals exact leB_RkA (x := [[_, _]]) (y := [List.replicate 2 .any]) ⟨⟨leV_any _, leV_any _, trivial⟩, trivial⟩
   have hq : (cmpV u y == 0) = false := beq_eq_false_iff_ne.2 fun h => huy ((ordV.zero u y).1 h)
   rw [if_neg (fun h => huy (Option.some.inj h))] at hst
   refine DrawK.walk 10 mixed (by kernel_rfl) ?_
   simp only [go_sem, h5, hgf, n0, List.length_map]
   refine CallU.free hs2 (by simp only [go_sem]) (by simp only [go_sem]) ?_
   rintro z bx rfl
   simp only [go_sem, hq, hwi]
   refine roundK.intro (i + 1, cmpV y c == 0, at_) ⟨by show i + 1 <= _; omega, hA2, hat, hst.symm.trans hG⟩ (by show more.length - (i + 1) < more.length - i; omega) ?_
   simp only [go_sem, Rk_succ]
   all_goals exact leB_RkA (x := [[_, _]]) (y := [List.replicate 2 .any]) ⟨⟨leV_any _, leV_any _, trivial⟩, trivial⟩
end Go.AM
