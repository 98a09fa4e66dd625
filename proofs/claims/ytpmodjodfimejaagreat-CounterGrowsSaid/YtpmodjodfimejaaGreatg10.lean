/-
  CounterGrows: the walk of the law.
  Closed facts of rows, one by one.
  Closed facts of rows, together.
-/
import Derived.Test.YtpmodjodfimejaaGreatg9
/-! ## HR -/
namespace Go.AM
open Go Go.Proofs Go.RowKit

theorem con_dConfigF (l : List Int) (s : DS) (m : MD) (h : Own m) (hd : Dk l s) (x : Nat) (v : List Int) (e : cfV l s m.states.length (m.places.length + 1) = (x : Int) :: v) (hc : confB m.states.length m.places.length (cfgC x v) = true) :
    Con Tryz.prog 31 [.pb 0 0, vM m] [deckA l s] fun r b => r = cfgO 0 x v ∧ b = [deckA l (cfS l s m.states.length (m.places.length + 1))] :=
  (((con_dConfig l s m h hd x v e hc).leA (args' := [.pb 0 0, vM m]) ⟨leV_refl _, hid_le m, trivial⟩).freezeB fun _ => true).mono fun r b ⟨r1, b1, ⟨h1, h2⟩, h3, h4⟩ => by
    subst h1; subst h2; subst h3; subst h4
    exact ⟨rfl, rfl⟩
theorem con_dAboveF (l : List Int) (st : DS) (m : MD) (s : Nat) (v : List Int) (hd : Dk l st) (h : GoodM m) (hc : GoodC m s v) :
    Con Tryz.prog 52 [.pb 0 0, vM m, cfgO 0 s v] [deckA l st] fun r b => ∃ (v' : List Int) (st' : DS), (v'.length = m.places.length ∧ ∀ i, i < m.places.length → v[i]! ≤ v'[i]! ∧ v'[i]! ≤ 1048576) ∧ Dk l st' ∧ r = cfgO 0 s v' ∧ b = [deckA l st'] :=
  ((con_dAbove l st m s v hd h hc).freezeB fun _ => true).mono fun r b ⟨r1, b1, ⟨v', st', h1, h2, h3, h5⟩, h4, h6⟩ => by
    subst h3; subst h5; subst h4; subst h6
    exact ⟨v', st', h1, h2, rfl, rfl⟩
theorem con_rTypeF (m : MD) (h : GoodM m) : Con Tryz.prog 26 [vM m] [] fun r _ => r = .tup [flatT 0 (partsP m.states.length m.places.length), vi 0] :=
  (Con.freezeR (fun _ => true) (con_rType m h)).weak fun r b ⟨r0, h0, h1⟩ => by
    subst h0; subst h1
    exact ⟨_, rfl, leV_refl _⟩
theorem cfgN_le (s : Nat) (v : List Int) : leV (cfgN 0 s v) (cfgO 0 s v) := by
  have := cfg_le s v
  rw [cfgZ_eq] at this
  exact this

/-- what Apply answers: an error, the numbers of the configuration -/
def appE (r : RD) (s : Nat) (v : List Int) : Int := if enF r s v = true then (if okV (moveV r v) = true then 0 else 1) else 18
def appL (r : RD) (s : Nat) (v : List Int) : List Int := if enF r s v = true then (if okV (moveV r v) = true then (r.dst.toNat : Int) :: moveV r v else []) else []
theorem con_capplyU (m : MD) (i : Nat) (s : Nat) (v : List Int) (h : GoodM m) (hi : i < m.rules.length) (hc : GoodC m s v) :
    Con Tryz.prog 46 [vM m, vi i, cfgO 0 s v] [] fun x _ => x = .tup [.ag [vi 0, .sl 0 2 ((appL m.rules[i]! s v).map kidZ)], vi (appE m.rules[i]! s v)] := by
  have ha := con_capply m i s v h hi hc
  rw [cfgZ_eq] at ha
  refine (Con.freezeR (fun _ => true) ha).weak fun r b ⟨r0, h0, h1⟩ => ?_
  subst h0; subst h1
  refine ⟨_, rfl, ?_⟩
  unfold appA appE appL
  split
  · split
    · refine leV_tup ⟨?_, leV_refl _, trivial⟩
      exact cfgN_le _ _
    · exact leV_tup ⟨leV_ag ⟨leV_refl _, leV_nil _ _, trivial⟩, leV_refl _, trivial⟩
  · exact leV_tup ⟨leV_ag ⟨leV_refl _, leV_nil _ _, trivial⟩, leV_refl _, trivial⟩

section
variable {m : MD} {s i : Nat} {v v' : List Int}
/-- what is behind a rule is a configuration -/
theorem app_conf (h : GoodM m) (hi : i < m.rules.length) (hc : GoodC m s v) (he : enF m.rules[i]! s v = true) (ho : okV (moveV m.rules[i]! v) = true) : GoodC m m.rules[i]!.dst.toNat (moveV m.rules[i]! v) := by
  have hr := rule_c (h.rules _ (mem_bangI hi)).1
  have hle := (en_le he).2
  have hl : (moveV m.rules[i]! v).length = m.places.length := by unfold moveV; rw [moveN_len, hr.give.1]
  refine ⟨by have := hr.dst; omega, hl, fun x hx => ?_⟩
  obtain ⟨j, hj, e⟩ := List.getElem_of_mem hx
  have hb := moveN_bnd (v := v) hr (fun k hk => by
    have a1 := hle k (by rw [hr.need.1]; exact hk)
    have a2 := hc.low _ (mem_bangI (show k < v.length by rw [hc.len]; exact hk))
    have a3 := hr.need.2 _ (mem_bangI (show k < m.rules[i]!.need.length by rw [hr.need.1]; exact hk))
    omega) v.length (by rw [hc.len]; exact Nat.le_refl _) j
  have ho' := (List.all_eq_true.1 ho) x hx
  rw [decide_eq_true_eq] at ho'
  have e2 : (moveN m.rules[i]! v v.length)[j]! = x := by
    show (moveV m.rules[i]! v)[j]! = x
    rw [getElem!_pos _ j hj, e]
  rw [e2] at hb
  exact ⟨hb.1, ho'⟩
theorem app_mono (h : GoodM m) (hi : i < m.rules.length) (hv : v.length = m.places.length) (hv' : v'.length = m.places.length) (hle : ∀ j, j < m.places.length → v[j]! ≤ v'[j]!) (d : Nat) :
    cfgLe d (moveV m.rules[i]! v) d (moveV m.rules[i]! v') = true := by
  have hr := rule_c (h.rules _ (mem_bangI hi)).1
  unfold cfgLe
  simp only [beq_self_eq_true, Bool.true_and, List.all_eq_true, List.mem_range, decide_eq_true_eq]
  intro j hj
  unfold moveV
  rw [hv, hv']
  exact move_mono hr hle m.places.length (Nat.le_refl _) j
end

set_option maxRecDepth 100000 in
set_option maxHeartbeats 4000000 in
theorem con_growsLaw (l : List Int) : Con Tryz.prog 9 [vs 0 l] [] fun r _ => r = vb true := by
  refine Con.intro Tryz.func9 rfl Tryz.ntmps9 Tryz.results9 (by kernel_rfl) (by simp) 0 (by simp) ?_
  simp only [go_sem]
  refine CallU.free con_sane17 (by simp only [go_sem]) (by simp only [go_sem]) ?_
  rintro r bx rfl
  simp only [go_sem]
  refine CallU.free (con_dFew l) (by simp only [go_sem]) (by simp only [go_sem]) ?_
  rintro r bx rfl
  by_cases hf : (l.length : Int) ≤ 400
  case neg =>
    simp only [go_sem, hf]
    refine CallU.free con_sane17 (by simp only [go_sem]) (by simp only [go_sem]) ?_
    rintro r bx rfl
    simp only [go_sem]
  simp only [go_sem, hf]
  refine CallU.news (bx0 := []) (con_dNew l) (by simp only [go_sem]) (by simp only [go_sem]) (by simp only [go_sem]) (by simp only [go_sem]) (by simp only [go_sem]) ?_
  rintro r b ⟨rfl, rfl⟩
  simp only [go_sem]
  refine CallU.boxes (i := 0) (is := []) (bx0 := [deckA l (0, 11400714819323198485)]) (con_dModel1 l (0, 11400714819323198485) (deck_dk hf)) (by simp only [go_sem]) (by simp only [go_sem]) (by simp only [go_sem]) (by simp only [go_sem]) (by simp only [go_sem]) ?_
  rintro r b ⟨ns, np, rules, x0, v0, s1, hM, hd1, rfl, rfl⟩
  have hns := hM.hns; have hnp := hM.hnp
  have hG := hM.good
  have l1 : (dealtM ns np rules (cfgC x0 v0)).states.length = ns := nmL_len _ _
  have l2 : (dealtM ns np rules (cfgC x0 v0)).places.length = np := nmL_len _ _
  have hO := dealt_own (rules := rules) (st := cfgC x0 v0) hns hnp
  have hlr : (dealtM ns np rules (cfgC x0 v0)).rules.length ≤ 4 := hM.len
  generalize dealtM ns np rules (cfgC x0 v0) = mm at hG l1 l2 hO hlr
  obtain ⟨x, v, e, g1, g2, g3⟩ := cfV_cons (l := l) (s := s1) hns.1 np
  have hcf := con_dConfigF l s1 mm hO hd1 x v (by rw [l1, l2]; exact e) (by rw [l1, l2]; exact cfg_conf g1 g2 fun y hy => by have := g3 y hy; omega)
  have hC : GoodC mm x v := ⟨by omega, by omega, fun y hy => by have := g3 y hy; omega⟩
  have hd2 : Dk l (cfS l s1 mm.states.length (mm.places.length + 1)) := cfS_dk hd1 _
  generalize cfS l s1 mm.states.length (mm.places.length + 1) = s2 at hcf hd2
  simp only [go_sem]
  refine CallU.free (con_rTypeF mm hG) (by simp only [go_sem]) (by simp only [go_sem]) ?_
  rintro r bx rfl
  simp only [go_sem]
  refine CallU.boxes (i := 0) (is := []) (bx0 := [deckA l s1]) hcf (by simp only [go_sem]) (by simp only [go_sem]) (by simp only [go_sem]) (by simp only [go_sem]) (by simp only [go_sem]) ?_
  rintro r b ⟨rfl, rfl⟩
  simp only [go_sem]
  refine CallU.boxes (i := 0) (is := []) (bx0 := [deckA l s2]) (con_dAboveF l s2 mm x v hd2 hG hC) (by simp only [go_sem]) (by simp only [go_sem]) (by simp only [go_sem]) (by simp only [go_sem]) (by simp only [go_sem]) ?_
  rintro r b ⟨v', s3, ⟨hl', hv'⟩, hd3, rfl, rfl⟩
  have hC' : GoodC mm x v' := ⟨hC.state, hl', fun y hy => by
    obtain ⟨j, hj, ej⟩ := List.getElem_of_mem hy
    have h1 := hv' j (by omega)
    have h2 := hC.low _ (mem_bangI (show j < v.length by rw [hC.len]; omega))
    rw [getElem!_pos v' j hj, ej] at h1
    omega⟩
  by_cases hr0 : mm.rules.length = 0
  · simp only [go_sem, hr0]
  have hrb : ((mm.rules.length : Int) == 0) = false := beq_eq_false_iff_ne.2 (by omega)
  have hn := nextV_lt (l := l) (s := s3) (n := mm.rules.length) (by omega)
  obtain ⟨i, ei, hi⟩ : ∃ i : Nat, nextV l s3 mm.rules.length = i ∧ i < mm.rules.length := ⟨(nextV l s3 mm.rules.length).toNat, by omega, by omega⟩
  simp only [go_sem, hrb]
  refine CallU.boxes (i := 0) (is := []) (bx0 := [deckA l s3]) (con_dNext l s3 mm.rules.length hd3) (by simp only [go_sem]) (by simp only [go_sem]) (by simp only [go_sem]) (by simp only [go_sem]) (by simp only [go_sem]) ?_
  rintro r b ⟨rfl, rfl⟩
  have ha := con_capplyU mm i x v hG hi hC
  have ha' := con_capplyU mm i x v' hG hi hC'
  rw [ei]
  generalize nextS l s3 mm.rules.length = s4
  simp only [go_sem]
  refine CallU.free ha (by simp only [go_sem]) (by simp only [go_sem]) ?_
  rintro r bx rfl
  simp only [go_sem]
  refine CallU.free ha' (by simp only [go_sem]) (by simp only [go_sem]) ?_
  rintro r bx rfl
  have e1 : enF mm.rules[i]! x v = false ∨ enF mm.rules[i]! x v = true := by cases enF mm.rules[i]! x v <;> simp
  rcases e1 with he | he
  · have eE : appE mm.rules[i]! x v = 18 := by unfold appE; rw [if_neg (by rw [he]; decide)]
    simp only [go_sem, eE]
  by_cases ho : okV (moveV mm.rules[i]! v) = true
  case neg =>
    have eE : appE mm.rules[i]! x v = 1 := by unfold appE; rw [if_pos he, if_neg ho]
    simp only [go_sem, eE]
  have eE : appE mm.rules[i]! x v = 0 := by unfold appE; rw [if_pos he, if_pos ho]
  have eL : appL mm.rules[i]! x v = (mm.rules[i]!.dst.toNat : Int) :: moveV mm.rules[i]! v := by unfold appL; rw [if_pos he, if_pos ho]
  have he' : enF mm.rules[i]! x v' = true := en_mono he fun j hj => (hv' j (by rw [(rule_c (hG.rules _ (mem_bangI hi)).1).need.1] at hj; exact hj)).1
  by_cases ho' : okV (moveV mm.rules[i]! v') = true
  case neg =>
    have eE' : appE mm.rules[i]! x v' = 1 := by unfold appE; rw [if_pos he', if_neg ho']
    simp only [go_sem, eE, eE']
  have eE' : appE mm.rules[i]! x v' = 0 := by unfold appE; rw [if_pos he', if_pos ho']
  have eL' : appL mm.rules[i]! x v' = (mm.rules[i]!.dst.toNat : Int) :: moveV mm.rules[i]! v' := by unfold appL; rw [if_pos he', if_pos ho']
  have k1 := app_conf hG hi hC he ho
  have k2 := app_conf hG hi hC' he' ho'
  have hle := con_rLeq mm.states.length mm.places.length mm.rules[i]!.dst.toNat mm.rules[i]!.dst.toNat (moveV mm.rules[i]! v) (moveV mm.rules[i]! v') (by omega) (by omega) (by omega) k1.conf k2.conf k1.len k2.len
  rw [app_mono hG hi hC.len hC'.len (fun j hj => (hv' j hj).1)] at hle
  simp only [go_sem, eE, eE', eL, eL', List.map_cons]
  refine CallU.free hle (by simp only [go_sem]) (by simp only [go_sem]) ?_
  rintro r bx rfl
  simp only [go_sem]
end Go.AM

/-! ## Closed1O -/
namespace Go.Proofs.YtpmodjodfimejaaGreat
open Go.ChangeShapes Go.WideShapes Go.ChangeAt Go.RowKit Go.AM

theorem and_mk {a b : Bool} (h1 : a = true) (h2 : b = true) : (a && b) = true := by rw [h1, h2]; rfl
theorem cLaid : laidOutB Tryz.prog = true := by kernel_rfl
theorem cRowed : mapsRowed Tryz.prog = true := by kernel_rfl
theorem cHeard : Tryz.prog.stopsHeard = true := by kernel_rfl
theorem cEnter : Tryz.prog.mayEnter = true := by kernel_rfl
theorem cLifts : (Rows.counterGrowsRow.lifted == Tryz.prog.liftsFinal) = true := by kernel_rfl
theorem counterGrowsC0 : (Rows.counterGrowsRow.wf (OpenSpec.ofChange Rows.counterGrowsSpec)) = true := by kernel_rfl
theorem counterGrowsC3 : (Tryz.f9.params.all (Tryz.prog.readableRec ·)) = true := by kernel_rfl
theorem counterGrowsC4 : (namedTie Tryz.prog Rows.counterGrowsRow.named Rows.counterGrowsSpec.vars) = true := by kernel_rfl
theorem counterGrowsC5 : ((Rows.counterGrowsRow.stops == [])) = true := by kernel_rfl
theorem counterGrowsC6 : ((Tryz.prog.stops == [])) = true := by kernel_rfl
theorem counterGrowsC7 : ((Rows.counterGrowsRow.knobs == [])) = true := by kernel_rfl
theorem counterGrowsC8 : ((Tryz.prog.stopKnobs == [])) = true := by kernel_rfl
theorem counterGrowsC9 : ((Rows.counterGrowsRow.inPlace == Tryz.prog.inPlace 9)) = true := by kernel_rfl
theorem counterGrowsC10 : ((Rows.counterGrowsRow.unfollowed == Tryz.prog.unfollowed 9)) = true := by kernel_rfl
theorem counterGrowsC11 : ((Rows.counterGrowsRow.recurses == Tryz.prog.recurses 9)) = true := by kernel_rfl
theorem counterGrowsC12 : ((Rows.counterGrowsRow.named == Tryz.prog.varsNamed 9)) = true := by kernel_rfl
theorem counterGrowsC13 : ((Rows.counterGrowsRow.maps == (Tryz.f9.params.toList ++ Rows.counterGrowsSpec.plain.varTypes Tryz.prog).any (Tryz.prog.mapsRec ·))) = true := by kernel_rfl
theorem counterGrowsC14 : ((Rows.counterGrowsRow.ifaces == (Tryz.f9.params.toList ++ Rows.counterGrowsSpec.plain.varTypes Tryz.prog).any (Tryz.prog.ifacesRec ·))) = true := by kernel_rfl
theorem counterGrowsC15 : ((Rows.counterGrowsRow.mapsOut == Tryz.prog.mapsAmong Tryz.f9.resultTypes.toList)) = true := by kernel_rfl
theorem counterGrowsC16 : ((Rows.counterGrowsRow.loops == (Tryz.f9.params.toList ++ Rows.counterGrowsSpec.plain.varTypes Tryz.prog).any (Tryz.prog.loopsFrom ·))) = true := by kernel_rfl
theorem counterGrowsC17 : ((Rows.counterGrowsRow.wideKeys == (Tryz.f9.params.toList ++ Rows.counterGrowsSpec.plain.varTypes Tryz.prog ++ Tryz.f9.resultTypes.toList).any (Tryz.prog.wideKeysFrom ·))) = true := by kernel_rfl
theorem counterGrowsC18 : (Rows.counterGrowsSpec.vars.all (Tryz.prog.varReadable ·)) = true := by kernel_rfl
theorem counterGrowsC19 : (Tryz.f9.resultTypes.all (fun t => Tryz.prog.readableRec t && decide (t < Tryz.prog.types.size))) = true := by kernel_rfl
theorem counterGrowsC20 : ((Rows.counterGrowsRow.ifacesOut == Tryz.f9.resultTypes.toList.any (Tryz.prog.ifacesRec ·))) = true := by kernel_rfl
theorem counterGrowsC21 : ((Rows.counterGrowsRow.loopsOut == Tryz.f9.resultTypes.toList.any (Tryz.prog.loopsFrom ·))) = true := by kernel_rfl
theorem counterGrowsC22 : ((Rows.counterGrowsRow.plainKeys == Tryz.prog.plainKeys)) = true := by kernel_rfl
theorem counterGrowsC23 : (Rows.counterGrowsRow.shortTexts.isNone) = true := by kernel_rfl
theorem counterGrowsC27 : ((Tryz.prog.make == some Rows.counterGrowsRow.make)) = true := by kernel_rfl
theorem counterGrowsC28 : ((Rows.counterGrowsRow.kinds == (if Rows.counterGrowsRow.domain.isEmpty then [] else Tryz.f9.params.toList.map fun t => match Tryz.prog.underlying t with | some (.int k) => some k | _ => none))) = true := by kernel_rfl
theorem counterGrowsC29 : ((Rows.counterGrowsRow.pinned == Rows.counterGrowsRow.pinnedBy)) = true := by kernel_rfl
theorem counterGrowsC30 : ((Rows.counterGrowsRow.veiled == (Tryz.f9.params.toList ++ Rows.counterGrowsSpec.plain.varTypes Tryz.prog ++ Tryz.f9.resultTypes.toList).any (Tryz.prog.veiledRec ·))) = true := by kernel_rfl
theorem counterGrowsC31 : (Rows.counterGrowsRow.veiledFits Tryz.prog Tryz.f9.params.toList (Tryz.f9.params.toList ++ Rows.counterGrowsSpec.plain.varTypes Tryz.prog ++ Tryz.f9.resultTypes.toList)) = true := by kernel_rfl
end Go.Proofs.YtpmodjodfimejaaGreat

/-! ## Closed1Oz -/
namespace Go.Proofs.YtpmodjodfimejaaGreat
open Go.ChangeShapes Go.WideShapes Go.ChangeAt Go.RowKit Go.AM

set_option maxRecDepth 100000 in
theorem counterGrowsClosed : joinedFacts Tryz.prog 9 Tryz.f9 Rows.counterGrowsSpec Rows.counterGrowsRow = true := by
  unfold joinedFacts
  exact and_mk (and_mk (and_mk (and_mk (and_mk (and_mk (and_mk (and_mk (and_mk (and_mk (and_mk (and_mk (and_mk (and_mk (and_mk (and_mk (and_mk (and_mk (and_mk (and_mk (and_mk (and_mk (and_mk (and_mk (and_mk (and_mk (and_mk (and_mk (and_mk (and_mk (and_mk counterGrowsC0 cLaid) cRowed) counterGrowsC3) counterGrowsC4) counterGrowsC5) counterGrowsC6) counterGrowsC7) counterGrowsC8) counterGrowsC9) counterGrowsC10) counterGrowsC11) counterGrowsC12) counterGrowsC13) counterGrowsC14) counterGrowsC15) counterGrowsC16) counterGrowsC17) counterGrowsC18) counterGrowsC19) counterGrowsC20) counterGrowsC21) counterGrowsC22) counterGrowsC23) cHeard) cEnter) cLifts) counterGrowsC27) counterGrowsC28) counterGrowsC29) counterGrowsC30) counterGrowsC31
theorem counterGrowsNamed : Tryz.prog.funcNamed Rows.counterGrowsRow.func = some 9 := by kernel_rfl
end Go.Proofs.YtpmodjodfimejaaGreat
