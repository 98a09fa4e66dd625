/-
  CounterGrows: the walk of the law.
  Walks: the reference's vectors: which are valid, which are at most another one.
  Sequences of rules without moves in models of one state: plain laws.
  CounterEffects: the walk of the law.
  Closed facts of rows, one by one.
  Closed facts of rows, together.
-/
import Derived.Test.YtpmodjodfimejaaGreatg9
import Derived.Test.YtpmodjodfimejaaGreatg5
import Derived.Test.YtpmodjodfimejaaGreatg7
/-! ## HR -/
namespace Go.AM
open Go Go.Proofs Go.RowKit

theorem con_dConfigF (l : List Int) (s : DS) (m : MD) (h : Own m) (hd : Dk l s) (x : Nat) (v : List Int) (e : cfV l s m.states.length (m.places.length + 1) = (x : Int) :: v) (hc : confB m.states.length m.places.length (cfgC x v) = true) :
    Con Tryz.prog 31 [.pb 0 0, vM m] [deckA l s] fun r b => r = cfgO 0 x v ∧ b = [deckA l (cfS l s m.states.length (m.places.length + 1))] :=
  (((con_dConfig l s m h hd x v e hc).leA (args' := [.pb 0 0, vM m]) ⟨leV_refl _, hid_le m, trivial⟩).freezeB fun _ => true).mono fun r b ⟨r1, b1, ⟨h1, h2⟩, h3, h4⟩ => by
    subst h1; subst h2; subst h3; subst h4
    exact ⟨rfl, rfl⟩
theorem con_dAboveF (l : List Int) (st : DS) (m : MD) (s : Nat) (v : List Int) (hd : Dk l st) (h : GoodM m) (hc : GoodC m s v) :
    Con Tryz.prog 52 [.pb 0 0, vM m, cfgO 0 s v] [deckA l st] fun r b => ∃ (v' : List Int) (st' : DS), (v'.length = m.places.length ∧ ∀ i, i < m.places.length → v[i]! ≤ v'[i]! ∧ v'[i]! ≤ 1048576) ∧ Dk l st' ∧ r = cfgO 0 s v' ∧ b = [deckA l st'] :=
  ((con_dAbove l st m s v hd h hc).freezeB fun _ => true).mono fun r b ⟨r1, b1, ⟨v', st', h1, h2, h3, h5⟩, h4, h6⟩ => by
    subst h3; subst h5; subst h4; subst h6
    exact ⟨v', st', h1, h2, rfl, rfl⟩
theorem con_rTypeF (m : MD) (h : GoodM m) : Con Tryz.prog 26 [vM m] [] fun r _ => r = .tup [flatT 0 (partsP m.states.length m.places.length), vi 0] :=
  (Con.freezeR (fun _ => true) (con_rType m h)).weak fun r b ⟨r0, h0, h1⟩ => by
    subst h0; subst h1
    exact ⟨_, rfl, leV_refl _⟩
theorem cfgN_le (s : Nat) (v : List Int) : leV (cfgN 0 s v) (cfgO 0 s v) := by
  have := cfg_le s v
  rw [cfgZ_eq] at this
  exact this

/-- what Apply answers: an error, the numbers of the configuration -/
def appE (r : RD) (s : Nat) (v : List Int) : Int := if enF r s v = true then (if okV (moveV r v) = true then 0 else 1) else 18
def appL (r : RD) (s : Nat) (v : List Int) : List Int := if enF r s v = true then (if okV (moveV r v) = true then (r.dst.toNat : Int) :: moveV r v else []) else []
theorem con_capplyU (m : MD) (i : Nat) (s : Nat) (v : List Int) (h : GoodM m) (hi : i < m.rules.length) (hc : GoodC m s v) :
    Con Tryz.prog 46 [vM m, vi i, cfgO 0 s v] [] fun x _ => x = .tup [.ag [vi 0, .sl 0 2 ((appL m.rules[i]! s v).map kidZ)], vi (appE m.rules[i]! s v)] := by
  have ha := con_capply m i s v h hi hc
  rw [cfgZ_eq] at ha
  refine (Con.freezeR (fun _ => true) ha).weak fun r b ⟨r0, h0, h1⟩ => ?_
  subst h0; subst h1
  refine ⟨_, rfl, ?_⟩
  unfold appA appE appL
  split
  · split
    · refine leV_tup ⟨?_, leV_refl _, trivial⟩
      exact cfgN_le _ _
    · exact leV_tup ⟨leV_ag ⟨leV_refl _, leV_nil _ _, trivial⟩, leV_refl _, trivial⟩
  · exact leV_tup ⟨leV_ag ⟨leV_refl _, leV_nil _ _, trivial⟩, leV_refl _, trivial⟩

section
variable {m : MD} {s i : Nat} {v v' : List Int}
/-- what is behind a rule is a configuration -/
theorem app_conf (h : GoodM m) (hi : i < m.rules.length) (hc : GoodC m s v) (he : enF m.rules[i]! s v = true) (ho : okV (moveV m.rules[i]! v) = true) : GoodC m m.rules[i]!.dst.toNat (moveV m.rules[i]! v) := by
  have hr := rule_c (h.rules _ (mem_bangI hi)).1
  have hle := (en_le he).2
  have hl : (moveV m.rules[i]! v).length = m.places.length := by unfold moveV; rw [moveN_len, hr.give.1]
  refine ⟨by have := hr.dst; omega, hl, fun x hx => ?_⟩
  obtain ⟨j, hj, e⟩ := List.getElem_of_mem hx
  have hb := moveN_bnd (v := v) hr (fun k hk => by
    have a1 := hle k (by rw [hr.need.1]; exact hk)
    have a2 := hc.low _ (mem_bangI (show k < v.length by rw [hc.len]; exact hk))
    have a3 := hr.need.2 _ (mem_bangI (show k < m.rules[i]!.need.length by rw [hr.need.1]; exact hk))
    omega) v.length (by rw [hc.len]; exact Nat.le_refl _) j
  have ho' := (List.all_eq_true.1 ho) x hx
  rw [decide_eq_true_eq] at ho'
  have e2 : (moveN m.rules[i]! v v.length)[j]! = x := by
    show (moveV m.rules[i]! v)[j]! = x
    rw [getElem!_pos _ j hj, e]
  rw [e2] at hb
  exact ⟨hb.1, ho'⟩
theorem app_mono (h : GoodM m) (hi : i < m.rules.length) (hv : v.length = m.places.length) (hv' : v'.length = m.places.length) (hle : ∀ j, j < m.places.length → v[j]! ≤ v'[j]!) (d : Nat) :
    cfgLe d (moveV m.rules[i]! v) d (moveV m.rules[i]! v') = true := by
  have hr := rule_c (h.rules _ (mem_bangI hi)).1
  unfold cfgLe
  simp only [beq_self_eq_true, Bool.true_and, List.all_eq_true, List.mem_range, decide_eq_true_eq]
  intro j hj
  unfold moveV
  rw [hv, hv']
  exact move_mono hr hle m.places.length (Nat.le_refl _) j
end

set_option maxRecDepth 100000 in
set_option maxHeartbeats 4000000 in
theorem con_growsLaw (l : List Int) : Con Tryz.prog 9 [vs 0 l] [] fun r _ => r = vb true := by
  refine Con.intro Tryz.func9 rfl Tryz.ntmps9 Tryz.results9 (by kernel_rfl) (by simp) 0 (by simp) ?_
  simp only [go_sem]
  refine CallU.free con_sane17 (by simp only [go_sem]) (by simp only [go_sem]) ?_
  rintro r bx rfl
  simp only [go_sem]
  refine CallU.free (con_dFew l) (by simp only [go_sem]) (by simp only [go_sem]) ?_
  rintro r bx rfl
  by_cases hf : (l.length : Int) ≤ 400
  case neg =>
    simp only [go_sem, hf]
    refine CallU.free con_sane17 (by simp only [go_sem]) (by simp only [go_sem]) ?_
    rintro r bx rfl
    simp only [go_sem]
  simp only [go_sem, hf]
  refine CallU.news (bx0 := []) (con_dNew l) (by simp only [go_sem]) (by simp only [go_sem]) (by simp only [go_sem]) (by simp only [go_sem]) (by simp only [go_sem]) ?_
  rintro r b ⟨rfl, rfl⟩
  simp only [go_sem]
  refine CallU.boxes (i := 0) (is := []) (bx0 := [deckA l (0, 11400714819323198485)]) (con_dModel1 l (0, 11400714819323198485) (deck_dk hf)) (by simp only [go_sem]) (by simp only [go_sem]) (by simp only [go_sem]) (by simp only [go_sem]) (by simp only [go_sem]) ?_
  rintro r b ⟨ns, np, rules, x0, v0, s1, hM, hd1, rfl, rfl⟩
  have hns := hM.hns; have hnp := hM.hnp
  have hG := hM.good
  have l1 : (dealtM ns np rules (cfgC x0 v0)).states.length = ns := nmL_len _ _
  have l2 : (dealtM ns np rules (cfgC x0 v0)).places.length = np := nmL_len _ _
  have hO := dealt_own (rules := rules) (st := cfgC x0 v0) hns hnp
  have hlr : (dealtM ns np rules (cfgC x0 v0)).rules.length ≤ 4 := hM.len
  generalize dealtM ns np rules (cfgC x0 v0) = mm at hG l1 l2 hO hlr
  obtain ⟨x, v, e, g1, g2, g3⟩ := cfV_cons (l := l) (s := s1) hns.1 np
  have hcf := con_dConfigF l s1 mm hO hd1 x v (by rw [l1, l2]; exact e) (by rw [l1, l2]; exact cfg_conf g1 g2 fun y hy => by have := g3 y hy; omega)
  have hC : GoodC mm x v := ⟨by omega, by omega, fun y hy => by have := g3 y hy; omega⟩
  have hd2 : Dk l (cfS l s1 mm.states.length (mm.places.length + 1)) := cfS_dk hd1 _
  generalize cfS l s1 mm.states.length (mm.places.length + 1) = s2 at hcf hd2
  simp only [go_sem]
  refine CallU.free (con_rTypeF mm hG) (by simp only [go_sem]) (by simp only [go_sem]) ?_
  rintro r bx rfl
  simp only [go_sem]
  refine CallU.boxes (i := 0) (is := []) (bx0 := [deckA l s1]) hcf (by simp only [go_sem]) (by simp only [go_sem]) (by simp only [go_sem]) (by simp only [go_sem]) (by simp only [go_sem]) ?_
  rintro r b ⟨rfl, rfl⟩
  simp only [go_sem]
  refine CallU.boxes (i := 0) (is := []) (bx0 := [deckA l s2]) (con_dAboveF l s2 mm x v hd2 hG hC) (by simp only [go_sem]) (by simp only [go_sem]) (by simp only [go_sem]) (by simp only [go_sem]) (by simp only [go_sem]) ?_
  rintro r b ⟨v', s3, ⟨hl', hv'⟩, hd3, rfl, rfl⟩
  have hC' : GoodC mm x v' := ⟨hC.state, hl', fun y hy => by
    obtain ⟨j, hj, ej⟩ := List.getElem_of_mem hy
    have h1 := hv' j (by omega)
    have h2 := hC.low _ (mem_bangI (show j < v.length by rw [hC.len]; omega))
    rw [getElem!_pos v' j hj, ej] at h1
    omega⟩
  by_cases hr0 : mm.rules.length = 0
  · simp only [go_sem, hr0]
  have hrb : ((mm.rules.length : Int) == 0) = false := beq_eq_false_iff_ne.2 (by omega)
  have hn := nextV_lt (l := l) (s := s3) (n := mm.rules.length) (by omega)
  obtain ⟨i, ei, hi⟩ : ∃ i : Nat, nextV l s3 mm.rules.length = i ∧ i < mm.rules.length := ⟨(nextV l s3 mm.rules.length).toNat, by omega, by omega⟩
  simp only [go_sem, hrb]
  refine CallU.boxes (i := 0) (is := []) (bx0 := [deckA l s3]) (con_dNext l s3 mm.rules.length hd3) (by simp only [go_sem]) (by simp only [go_sem]) (by simp only [go_sem]) (by simp only [go_sem]) (by simp only [go_sem]) ?_
  rintro r b ⟨rfl, rfl⟩
  have ha := con_capplyU mm i x v hG hi hC
  have ha' := con_capplyU mm i x v' hG hi hC'
  rw [ei]
  generalize nextS l s3 mm.rules.length = s4
  simp only [go_sem]
  refine CallU.free ha (by simp only [go_sem]) (by simp only [go_sem]) ?_
  rintro r bx rfl
  simp only [go_sem]
  refine CallU.free ha' (by simp only [go_sem]) (by simp only [go_sem]) ?_
  rintro r bx rfl
  have e1 : enF mm.rules[i]! x v = false ∨ enF mm.rules[i]! x v = true := by cases enF mm.rules[i]! x v <;> simp
  rcases e1 with he | he
  · have eE : appE mm.rules[i]! x v = 18 := by unfold appE; rw [if_neg (by rw [he]; decide)]
    simp only [go_sem, eE]
  by_cases ho : okV (moveV mm.rules[i]! v) = true
  case neg =>
    have eE : appE mm.rules[i]! x v = 1 := by unfold appE; rw [if_pos he, if_neg ho]
    simp only [go_sem, eE]
  have eE : appE mm.rules[i]! x v = 0 := by unfold appE; rw [if_pos he, if_pos ho]
  have eL : appL mm.rules[i]! x v = (mm.rules[i]!.dst.toNat : Int) :: moveV mm.rules[i]! v := by unfold appL; rw [if_pos he, if_pos ho]
  have he' : enF mm.rules[i]! x v' = true := en_mono he fun j hj => (hv' j (by rw [(rule_c (hG.rules _ (mem_bangI hi)).1).need.1] at hj; exact hj)).1
  by_cases ho' : okV (moveV mm.rules[i]! v') = true
  case neg =>
    have eE' : appE mm.rules[i]! x v' = 1 := by unfold appE; rw [if_pos he', if_neg ho']
    simp only [go_sem, eE, eE']
  have eE' : appE mm.rules[i]! x v' = 0 := by unfold appE; rw [if_pos he', if_pos ho']
  have eL' : appL mm.rules[i]! x v' = (mm.rules[i]!.dst.toNat : Int) :: moveV mm.rules[i]! v' := by unfold appL; rw [if_pos he', if_pos ho']
  have k1 := app_conf hG hi hC he ho
  have k2 := app_conf hG hi hC' he' ho'
  have hle := con_rLeq mm.states.length mm.places.length mm.rules[i]!.dst.toNat mm.rules[i]!.dst.toNat (moveV mm.rules[i]! v) (moveV mm.rules[i]! v') (by omega) (by omega) (by omega) k1.conf k2.conf k1.len k2.len
  rw [app_mono hG hi hC.len hC'.len (fun j hj => (hv' j hj).1)] at hle
  simp only [go_sem, eE, eE', eL, eL', List.map_cons]
  refine CallU.free hle (by simp only [go_sem]) (by simp only [go_sem]) ?_
  rintro r bx rfl
  simp only [go_sem]
end Go.AM

/-! ## VL -/
namespace Go.AM
open Go Go.Proofs Go.RowKit

/-- an element of a vector -/
def elB (x : Int) : Bool := (decide (0 ≤ x) && decide (x ≤ 1048576)) || x == 1099511627776
def vecB (l : List Int) : Bool := l.all elB && decide (l.length ≤ 6)
/-- a vector at most another one -/
def leqV (a b : List Int) : Bool := vecB a && vecB b && decide (a.length = b.length) && (List.range a.length).all fun i => decide (a[i]! ≤ b[i]!)
set_option maxRecDepth 100000 in
theorem con_relem (x : Int) : Con Tryz.prog 158 [vi x] [] fun r _ => r = vb (elB x) := by
  refine Con.intro Tryz.func158 rfl Tryz.ntmps158 Tryz.results158 (by kernel_rfl) (by simp) 0 (by simp) ?_
  unfold elB
  by_cases h1 : 0 ≤ x
  · by_cases h2 : x ≤ 1048576
    · simp only [go_sem, h1, h2, decide_true, Bool.true_and, Bool.true_or]
    · simp only [go_sem, h1, h2, decide_true, decide_false, Bool.true_and, Bool.false_or]
  · simp only [go_sem, h1, decide_false, Bool.false_and, Bool.false_or]
set_option maxRecDepth 100000 in
theorem con_rvecValid (l : List Int) (hl : l.length ≤ 1000000) : Con Tryz.prog 110 [vs 0 l] [] fun r _ => r = vb (vecB l) := by
  refine Con.intro Tryz.func110 rfl Tryz.ntmps110 Tryz.results110 (by kernel_rfl) (by simp) 0 (by simp) ?_
  unfold vecB
  simp only [go_sem]
  refine LoopK.intro (fun i : Nat => ⟨19, [(0, vs 0 l), (3, vi i)], []⟩) (fun i => l.length - i) (fun i => i ≤ l.length ∧ ∀ j, j < i → elB l[j]! = true) 0 ⟨by omega, fun j hj => by omega⟩ ?_ ?_
  · simp only [go_sem]
  rintro i ⟨hi, hj⟩
  by_cases h : i < l.length
  · have hg := getv h
    have hw : IntKind.i64.wrap (i + 1) = i + 1 := wrap_in (by omega) (by omega)
    simp only [go_sem, h, hg]
    refine CallU.free (con_relem l[i]!) (by simp only [go_sem]) (by simp only [go_sem]) ?_
    rintro r bx rfl
    cases hb : elB l[i]!
    · have e : l.all elB = false := by
        rw [List.all_eq_false]
        exact ⟨l[i]!, mem_bangI h, by rw [hb]; simp⟩
      simp only [go_sem, e, Bool.false_and]
    · simp only [go_sem, hw]
      refine roundK.intro (i + 1) ⟨by omega, fun j hj2 => ?_⟩ (by omega) ?_
      · by_cases e : j = i
        · rw [e, hb]
        · exact hj j (by omega)
      simp only [go_sem]
  · have e : l.all elB = true := by
      rw [List.all_eq_true]
      intro x hx
      obtain ⟨j, hj2, rfl⟩ := List.getElem_of_mem hx
      have := hj j (by omega)
      rw [getElem!_pos l j hj2] at this
      exact this
    have e2 : decide ((l.length : Int) ≤ 6) = decide (l.length ≤ 6) := by simp; omega
    simp only [go_sem, h, e, Bool.true_and]
set_option maxRecDepth 100000 in
theorem con_rvecLeq (a b : List Int) (ha : a.length ≤ 1000000) (hb : b.length ≤ 1000000) : Con Tryz.prog 56 [vs 0 a, vs 0 b] [] fun r _ => r = vb (leqV a b) := by
  refine Con.intro Tryz.func56 rfl Tryz.ntmps56 Tryz.results56 (by kernel_rfl) (by simp) 0 (by simp) ?_
  unfold leqV
  simp only [go_sem]
  refine CallU.free (con_rvecValid a ha) (by simp only [go_sem]) (by simp only [go_sem]) ?_
  rintro r bx rfl
  cases h1 : vecB a
  · simp only [go_sem, Bool.false_and]
  simp only [go_sem]
  refine CallU.free (con_rvecValid b hb) (by simp only [go_sem]) (by simp only [go_sem]) ?_
  rintro r bx rfl
  cases h2 : vecB b
  · simp only [go_sem, Bool.false_and]
  by_cases h3 : a.length = b.length
  case neg =>
    have h3' : ((a.length : Int) != (b.length : Int)) = true := bne_iff_ne.2 (by omega)
    simp only [go_sem, h3', h3, decide_false, Bool.and_false, Bool.false_and]
  have h3' : ((a.length : Int) != (b.length : Int)) = false := by rw [h3]; simp
  rw [decide_eq_true h3, Bool.true_and]
  simp only [go_sem, h3']
  refine LoopK.intro (fun i : Nat => ⟨36, [(0, vs 0 a), (1, vs 0 b), (5, vi i)], []⟩) (fun i => a.length - i) (fun i => i ≤ a.length ∧ ∀ j, j < i → a[j]! ≤ b[j]!) 0 ⟨by omega, fun j hj => by omega⟩ ?_ ?_
  · simp only [go_sem]
  rintro i ⟨hi, hj⟩
  by_cases h : i < a.length
  · have h' : i < b.length := by omega
    have hg := getv h
    have hg' := getv h'
    have hw : IntKind.i64.wrap (i + 1) = i + 1 := wrap_in (by omega) (by omega)
    simp only [go_sem, h]
    refine DrawK.walk 9 mixed (by kernel_rfl) ?_
    simp only [go_sem, h, h', hg, hg']
    by_cases hlt : b[i]! < a[i]!
    · have e : ((List.range a.length).all fun i => decide (a[i]! ≤ b[i]!)) = false := by
        rw [List.all_eq_false]
        exact ⟨i, List.mem_range.2 h, by rw [decide_eq_true_eq]; omega⟩
      simp only [go_sem, hlt, e]
    · simp only [go_sem, hlt, hw]
      refine roundK.intro (i + 1) ⟨by omega, fun j hj2 => ?_⟩ (by omega) ?_
      · by_cases e : j = i
        · rw [e]; omega
        · exact hj j (by omega)
      simp only [go_sem]
  · have e : ((List.range a.length).all fun i => decide (a[i]! ≤ b[i]!)) = true := by
      rw [List.all_eq_true]
      intro j hj2
      rw [List.mem_range] at hj2
      rw [decide_eq_true_eq]
      exact hj j (by omega)
    simp only [go_sem, h, e]
end Go.AM

/-! ## HT0 -/
namespace Go.AM
open Go Go.Proofs Go.RowKit

theorem ext_bang {l l' : List Int} (h : l.length = l'.length) (he : ∀ p, p < l.length → l[p]! = l'[p]!) : l = l' :=
  List.ext_getElem h fun p h1 h2 => by have := he p h1; rwa [getElem!_pos l p h1, getElem!_pos l' p h2] at this
theorem mod_set {α : Type} {f : α → α} : ∀ {L : List α} {i : Nat} {a : α}, L[i]? = some a → L.modify i f = L.set i (f a)
  | [], _, _, h => by simp at h
  | x :: L, 0, a, h => by
    have : x = a := by simpa using h
    subst this; rfl
  | x :: L, i + 1, a, h => by
    have := mod_set (f := f) (L := L) (i := i) (a := a) (by simpa using h)
    rw [List.modify_succ_cons, this]; rfl

/-- a rule that stays in the state 0 and moves nothing -/
def zR (r : RD) : RD := { r with src := 0, dst := 0, move := [] }
theorem nmL_take {a : ByteArray} {n k : Nat} (h : k ≤ n) : (nmL a n).take k = nmL a k := by
  unfold nmL
  rw [← List.map_take, List.take_range, Nat.min_eq_left h]
theorem dealtR_zero {ns np : Nat} {r : RD} (h : DealtR ns np r) : DealtR 1 np (zR r) := ⟨h.bare, ⟨Int.le_refl _, by show (0 : Int) < 1; omega⟩, ⟨Int.le_refl _, by show (0 : Int) < 1; omega⟩, h.need, h.give, .inl rfl⟩
theorem dealt_zero {ns np x : Nat} {rules : List RD} {v v' : List Int} (h : DealtM ns np rules x v) (hv : v'.length = np ∧ ∀ y ∈ v', 0 ≤ y ∧ y ≤ 3) : DealtM 1 np (rules.map zR) 0 v' := by
  refine ⟨by omega, h.hnp, by rw [List.length_map]; exact h.len, ?_, fun r hr => ?_, by omega, hv.1, hv.2⟩
  · rw [List.length_map, List.map_map]; exact h.names
  · obtain ⟨q, hq, rfl⟩ := List.mem_map.1 hr
    exact dealtR_zero (h.rules q hq)
section
variable {ns np : Nat} {r : RD}
theorem still_moves (h : RuleC ns np r) (hm : r.move = []) (v : List Int) : ∀ k : Nat, k ≤ np → ∀ j : Nat, (moveN r v k)[j]! = r.give[j]! + if j < k then v[j]! - r.need[j]! else 0
  | 0, _, j => by unfold moveN; rw [if_neg (by omega)]; omega
  | k + 1, hk, j => by
    have ih := still_moves h hm v k (by omega)
    have e : movedF r k = k := by unfold movedF; rw [if_pos (by rw [hm]; rfl)]
    have hl : k < (moveN r v k).length := by rw [moveN_len, h.give.1]; omega
    unfold moveN
    rw [e, if_pos (by omega), show ((k : Nat) : Int).toNat = k by omega, bang_set hl]
    by_cases hj : j = k
    · subst hj
      rw [if_pos rfl, ih j, if_neg (by omega), if_pos (by omega)]; omega
    · rw [if_neg hj, ih j]
      by_cases hj2 : j < k
      · rw [if_pos hj2, if_pos (by omega)]
      · rw [if_neg hj2, if_neg (by omega)]
end
/-- numbers behind a sequence of rules -/
def stepL (np : Nat) (rules : List RD) (c v : List Int) : List Int := (List.range np).map fun p => v[p]! + chg (tksF rules c p)
theorem stepL_len (np : Nat) (rules : List RD) (c v : List Int) : (stepL np rules c v).length = np := by simp [stepL]
theorem stepL_at {np p : Nat} {rules : List RD} {c v : List Int} (h : p < np) : (stepL np rules c v)[p]! = v[p]! + chg (tksF rules c p) := by
  rw [getElem!_pos _ p (by rw [stepL_len]; exact h)]; simp [stepL]
theorem stepL_nil {np : Nat} {rules : List RD} {v : List Int} (h : v.length = np) : stepL np rules [] v = v := by
  refine ext_bang (by rw [stepL_len, h]) fun p hp => ?_
  rw [stepL_len] at hp
  rw [stepL_at hp]
  show v[p]! + 0 = _
  omega
section
variable {ns np j : Nat} {rules : List RD} {c v : List Int}
theorem step_next (hr : RuleC ns np rules[c[j]!.toNat]!) (hm : rules[c[j]!.toNat]!.move = []) (hj : j < c.length) : moveV rules[c[j]!.toNat]! (stepL np rules (c.take j) v) = stepL np rules (c.take (j + 1)) v := by
  unfold moveV
  rw [stepL_len]
  refine ext_bang (by rw [moveN_len, stepL_len, hr.give.1]) fun p hp => ?_
  rw [moveN_len, hr.give.1] at hp
  rw [still_moves hr hm _ np (Nat.le_refl _) p, if_pos hp, stepL_at hp, stepL_at hp, chg_take hj]
  omega
theorem feas_next {p : Nat} (hj : j < c.length) : feas (tksF rules (c.take (j + 1)) p) v[p]! ↔ feas (tksF rules (c.take j) p) v[p]! ∧ rules[c[j]!.toNat]!.need[p]! ≤ v[p]! + chg (tksF rules (c.take j) p) := by
  rw [tks_take hj, feas_app]
  show _ ∧ (_ ∧ True) ↔ _
  rw [and_true]
theorem feas_part {p : Nat} (h : feas (tksF rules c p) v[p]!) (j : Nat) : feas (tksF rules (c.take j) p) v[p]! := by
  have e : tksF rules c p = tksF rules (c.take j) p ++ tksF rules (c.drop j) p := by
    unfold tksF
    rw [← List.map_append, List.take_append_drop]
  rw [e, feas_app] at h
  exact h.1
theorem en_feas (hn : rules[c[j]!.toNat]!.need.length = np) (hs : rules[c[j]!.toNat]!.src = 0) (hj : j < c.length) (hf : ∀ p, p < np → feas (tksF rules (c.take j) p) v[p]!) :
    enF rules[c[j]!.toNat]! 0 (stepL np rules (c.take j) v) = true ↔ ∀ p, p < np → feas (tksF rules (c.take (j + 1)) p) v[p]! := by
  unfold enF
  simp only [Bool.and_eq_true, beq_iff_eq, List.all_eq_true, List.mem_range, decide_eq_true_eq]
  constructor
  · rintro ⟨_, h⟩ p hp
    have := h p (by omega)
    rw [stepL_at hp] at this
    exact (feas_next hj).2 ⟨hf p hp, this⟩
  · intro h
    refine ⟨by rw [hs]; rfl, fun p hp => ?_⟩
    have hp' : p < np := by omega
    rw [stepL_at hp']
    exact ((feas_next hj).1 (h p hp')).2
theorem need_vec (h : ∀ r ∈ rules, SmallR np r) (hc : RulesOk rules c) (hl : c.length ≤ 64) (hnp : np ≤ 6) : vecB (needL np rules c) = true := by
  unfold vecB
  rw [Bool.and_eq_true, List.all_eq_true, decide_eq_true_eq]
  refine ⟨fun x hx => ?_, by rw [needL_len]; exact hnp⟩
  unfold needL at hx
  obtain ⟨p, hp, rfl⟩ := List.mem_map.1 hx
  have h5 := tks_bnd h hc (List.mem_range.1 hp)
  have h6 := needA_bnd h5 (by omega)
  have h7 := needA_nonneg (tksF rules c p)
  rw [tks_len] at h6
  unfold elB
  rw [decide_eq_true h7, decide_eq_true (show needA (tksF rules c p) ≤ 1048576 by omega)]; rfl
theorem small_vec (hv : ∀ y ∈ v, 0 ≤ y ∧ y ≤ 1048576) (hl : v.length ≤ 6) : vecB v = true := by
  unfold vecB
  rw [Bool.and_eq_true, List.all_eq_true, decide_eq_true_eq]
  refine ⟨fun x hx => ?_, hl⟩
  have := hv x hx
  unfold elB
  rw [decide_eq_true this.1, decide_eq_true this.2]; rfl
theorem leq_need (h1 : vecB (needL np rules c) = true) (h2 : vecB v = true) (hv : ∀ y ∈ v, 0 ≤ y) (hl : v.length = np) : leqV (needL np rules c) v = true ↔ ∀ p, p < np → feas (tksF rules c p) v[p]! := by
  unfold leqV
  rw [h1, h2, needL_len, hl, decide_eq_true rfl]
  simp only [Bool.true_and, List.all_eq_true, List.mem_range, decide_eq_true_eq]
  constructor
  · intro h p hp
    have := h p hp
    rw [needL_at hp] at this
    exact (needA_iff (hv _ (mem_bangI (by omega)))).1 this
  · intro h p hp
    rw [needL_at hp]
    exact (needA_iff (hv _ (mem_bangI (by omega)))).2 (h p hp)
/-- numbers stay small -/
theorem stepL_low (h : ∀ r ∈ rules, SmallR np r) (hc : RulesOk rules c) (hl : c.length ≤ 64) (hv : ∀ y ∈ v, 0 ≤ y ∧ y ≤ 6) (hvl : v.length = np) {p : Nat} (hp : p < np) (hf : feas (tksF rules c p) v[p]!) :
    0 ≤ (stepL np rules c v)[p]! ∧ (stepL np rules c v)[p]! ≤ 2000 := by
  rw [stepL_at hp]
  have h5 := tks_bnd h hc hp
  have h7 := chg_bnd h5 (by omega)
  have h8 := tks_len rules c p
  have h1 := hv _ (mem_bangI (show p < v.length by omega))
  rw [h8] at h7
  have hend : ∀ (ts : List Tk) (v : Int), (∀ t ∈ ts, 0 ≤ t.2) → 0 ≤ v → feas ts v → 0 ≤ v + chg ts := by
    intro ts
    induction ts with
    | nil => intro v _ h _; simp [chg]; exact h
    | cons t ts ih =>
      intro v hg hv h
      have := ih (v - t.1 + t.2) (fun x hx => hg x (by simp [hx])) (by have := hg t (by simp); have := h.1; omega) h.2
      simp only [chg]; omega
  have h9 := hend _ _ (fun t ht => (h5 t ht).2.2.1) h1.1 hf
  omega
end
end Go.AM

/-! ## HT -/
namespace Go.AM
open Go Go.Proofs Go.RowKit

set_option maxRecDepth 100000 in
theorem con_rWord (v : List Int) (hv : v.length ≤ 100) : Con Tryz.prog 55 [vs 0 v] [] fun r _ => r = .ag [vi 0, .sl 2 2 (v.map kidN)] := by
  refine Con.intro Tryz.func55 rfl Tryz.ntmps55 Tryz.results55 (by kernel_rfl) (by simp) 0 (by simp) ?_
  simp only [go_sem]
  refine LoopK.intro (fun i : Nat => ⟨22, [(0, vs 0 v), (2, .pb 0 0), (3, .pb 1 0), (4, vi i)], [[.any, .any], [vi 0, .sl 1280 2 ((v.take i).map kidN)]]⟩)
    (fun i => v.length - i) (fun i => i ≤ v.length) 0 (by omega) ?_ ?_
  · simp only [go_sem, List.take_zero, List.map_nil]
  rintro i hi
  by_cases h : i < v.length
  · have hw : IntKind.i64.wrap (i + 1) = i + 1 := wrap_in (by omega) (by omega)
    have hg := getv h
    have e : v.take (i + 1) = v.take i ++ [v[i]!] := by rw [List.take_add_one, List.getElem?_eq_getElem h, getElem!_pos v i h]; rfl
    simp only [go_sem, h]
    refine DrawK.walk 8 mixed (by kernel_rfl) ?_
    simp only [go_sem, h, hw, hg]
    refine ⟨by simp only [roomFor, List.length_take]; omega, roundK.intro (i + 1) (by omega) (by omega) ?_⟩
    simp only [go_sem, e, List.map_append, List.map_cons, List.map_nil]
  · have e : i = v.length := by omega
    subst e
    simp only [go_sem, h, List.take_length]

def effTree : Tr := .front 0 (.front 2 (.front 3 (.front 5 (.front 6 (.front 8 (.alt (.one 1 (.front 9 (.front 10 (.alt (.one 4 (.alt (.one 7 (.one 11 (.front 12 (.front 13 (.one 14 (.front 15 (.front 16 (.one 17 .done)))))))) (.one 11 (.front 12 (.front 13 (.alt (.one 7 (.one 14 (.front 15 (.front 16 (.one 17 .done))))) (.one 14 (.one 7 (.front 15 (.front 16 (.one 17 .done))))))))))) (.alt (.one 7 (.alt (.one 4 (.one 11 (.front 12 (.front 13 (.one 14 (.front 15 (.front 16 (.one 17 .done)))))))) (.one 11 (.one 4 (.front 12 (.front 13 (.one 14 (.front 15 (.front 16 (.one 17 .done)))))))))) (.one 11 (.alt (.one 4 (.front 12 (.front 13 (.alt (.one 7 (.one 14 (.front 15 (.front 16 (.one 17 .done))))) (.one 14 (.one 7 (.front 15 (.front 16 (.one 17 .done))))))))) (.one 7 (.one 4 (.front 12 (.front 13 (.one 14 (.front 15 (.front 16 (.one 17 .done))))))))))))))) (.alt (.one 4 (.alt (.one 1 (.front 9 (.front 10 (.alt (.one 7 (.one 11 (.front 12 (.front 13 (.one 14 (.front 15 (.front 16 (.one 17 .done)))))))) (.one 11 (.front 12 (.front 13 (.alt (.one 7 (.one 14 (.front 15 (.front 16 (.one 17 .done))))) (.one 14 (.one 7 (.front 15 (.front 16 (.one 17 .done))))))))))))) (.one 7 (.one 1 (.front 9 (.front 10 (.one 11 (.front 12 (.front 13 (.one 14 (.front 15 (.front 16 (.one 17 .done))))))))))))) (.one 7 (.alt (.one 1 (.front 9 (.front 10 (.alt (.one 4 (.one 11 (.front 12 (.front 13 (.one 14 (.front 15 (.front 16 (.one 17 .done)))))))) (.one 11 (.one 4 (.front 12 (.front 13 (.one 14 (.front 15 (.front 16 (.one 17 .done)))))))))))) (.one 4 (.one 1 (.front 9 (.front 10 (.one 11 (.front 12 (.front 13 (.one 14 (.front 15 (.front 16 (.one 17 .done))))))))))))))))))))

/-- the first so many rules as they become -/
def zRs (rules : List RD) (i : Nat) : List RD := (rules.take i).map zR ++ rules.drop i
theorem zRs_len (rules : List RD) (i : Nat) : (zRs rules i).length = rules.length := by unfold zRs; rw [List.length_append, List.length_map, ← List.length_append, List.take_append_drop]
theorem zRs_zero (rules : List RD) : zRs rules 0 = rules := rfl
theorem zRs_full (rules : List RD) : zRs rules rules.length = rules.map zR := by unfold zRs; rw [List.take_length, List.drop_length, List.append_nil]
theorem zRs_at {rules : List RD} {i : Nat} (h : i < rules.length) : (zRs rules i)[i]! = rules[i]! := by
  have h1 : ((rules.take i).map zR).length = i := by rw [List.length_map, List.length_take]; omega
  rw [getElem!_pos _ i (by rw [zRs_len]; exact h), getElem!_pos rules i h]
  unfold zRs
  rw [List.getElem_append_right (by omega), List.getElem_drop]
  simp only [h1]
  congr 1
  omega
theorem zRs_next {rules : List RD} {i : Nat} (h : i < rules.length) : (zRs rules i).set i (zR rules[i]!) = zRs rules (i + 1) := by
  refine List.ext_getElem? fun j => ?_
  have h1 : ((rules.take i).map zR).length = i := by rw [List.length_map, List.length_take]; omega
  have h2 : ((rules.take (i + 1)).map zR).length = i + 1 := by rw [List.length_map, List.length_take]; omega
  rw [List.getElem?_set]
  unfold zRs
  by_cases hij : i = j
  · subst hij
    rw [if_pos rfl, if_pos (by rw [List.length_append, List.length_map, List.length_take, List.length_drop]; omega), List.getElem?_append_left (by omega), List.getElem?_map, List.getElem?_take_of_lt (by omega), List.getElem?_eq_getElem h, getElem!_pos rules i h]; rfl
  · rw [if_neg hij]
    by_cases hlt : j < i
    · rw [List.getElem?_append_left (by omega), List.getElem?_append_left (by omega), List.getElem?_map, List.getElem?_map, List.getElem?_take_of_lt hlt, List.getElem?_take_of_lt (by omega)]
    · rw [List.getElem?_append_right (by omega), List.getElem?_append_right (by omega), List.getElem?_drop, List.getElem?_drop, h1, h2]
      congr 1
      omega
/-- a rule as it lies in memory, with another state ahead and behind, and other moves -/
def rA (r : RD) (a b : Int) (mv : AV) : AV := .ag [vStr r.name, vi a, vi b, vs 0 r.need, vs 0 r.give, mv, vi r.channel, vi r.act, vi r.letter, vs 0 r.path, vs 0 r.next, .sl 0 3 (r.takes.map vTake), vs 0 r.makes, vi r.second]
theorem up_three {L : List AV} {i : Nat} {r : RD} (h : L[i]? = some (vRule r)) :
    L.modify i (updElem 1 [.sc (.int .i64 0)]) = L.set i (rA r 0 r.dst (.sl 0 1 (r.move.map vi))) ∧ (L.set i (rA r 0 r.dst (.sl 0 1 (r.move.map vi)))).modify i (updElem 2 [.sc (.int .i64 0)]) = L.set i (rA r 0 0 (.sl 0 1 (r.move.map vi))) ∧
    (L.set i (rA r 0 0 (.sl 0 1 (r.move.map vi)))).modify i (updElem 5 [.nil]) = L.set i (rA r 0 0 .nil) := by
  have hi : i < L.length := by
    rw [List.getElem?_eq_some_iff] at h
    exact h.1
  refine ⟨by rw [mod_set h]; rfl, ?_, ?_⟩
  · rw [mod_set (List.getElem?_set_self hi), List.set_set]; rfl
  · rw [mod_set (List.getElem?_set_self hi), List.set_set]; rfl
theorem pw_sub : ∀ l : List AV, PW Sub l l
  | [] => PW.nil _
  | x :: l => PW.cons (Sub.refl x) (pw_sub l)
theorem up_le {l : List RD} {i t : Nat} {r : RD} (_h : i < l.length) : leV (.sl t 14 ((l.map vRule).set i (rA r 0 0 .nil))) (.sl t 14 ((l.set i (zR r)).map vRule)) := by
  have e1 : Sub .nil (vs 0 []) := Sub.nil 1
  have hc : ∀ y, y ∈ (l.set i (zR r)).map vRule → y.cells.length = 14 := fun y hy => by obtain ⟨z, _, rfl⟩ := List.mem_map.1 hy; rfl
  refine leV_slE (by simp) hc ?_
  rw [List.map_set]
  have key : ∀ (L : List AV) (i : Nat), PW Sub (flat (L.set i (rA r 0 0 .nil))) (flat (L.set i (vRule (zR r)))) := by
    intro L
    induction L with
    | nil => intro i; exact ⟨rfl, fun j x y h => by simp [flat] at h⟩
    | cons a L ih =>
      intro i
      cases i with
      | zero =>
        rw [List.set_cons_zero, List.set_cons_zero, flat_cons, flat_cons]
        refine PW.append ?_ (pw_sub _)
        exact PW.cons (Sub.refl _) (PW.cons (Sub.refl _) (PW.cons (Sub.refl _) (PW.cons (Sub.refl _) (PW.cons (Sub.refl _) (PW.cons e1 (PW.cons (Sub.refl _) (PW.cons (Sub.refl _) (PW.cons (Sub.refl _) (PW.cons (Sub.refl _) (PW.cons (Sub.refl _) (PW.cons (Sub.refl _) (PW.cons (Sub.refl _) (PW.cons (Sub.refl _) (PW.nil _))))))))))))))
      | succ i =>
        rw [List.set_cons_succ, List.set_cons_succ, flat_cons, flat_cons]
        exact PW.append (pw_sub _) (ih i)
  exact key _ _

theorem kidsZ_pw : ∀ l : List Int, PW Sub (flat (l.map kidN)) (flat (l.map kidZ))
  | [] => PW.nil _
  | n :: l => by
    rw [List.map_cons, List.map_cons, flat_cons, flat_cons]
    exact PW.append (PW.cons (Sub.refl _) (PW.cons (Sub.nil 2) (PW.nil _))) (kidsZ_pw l)
theorem kidsZ_le (t : Nat) (l : List Int) : leV (.sl t 2 (l.map kidN)) (.sl t 2 (l.map kidZ)) :=
  leV_slE (by simp) (fun y hy => by obtain ⟨x, _, rfl⟩ := List.mem_map.1 hy; rfl) (kidsZ_pw _)

set_option maxRecDepth 100000 in
set_option maxHeartbeats 4000000 in
theorem con_effectsLaw (l : List Int) : Con Tryz.prog 10 [vs 0 l] [] fun r _ => r = vb true := by
  refine Con.intro Tryz.func10 rfl Tryz.ntmps10 Tryz.results10 (by kernel_rfl) (by simp) 0 (by simp) ?_
  simp only [go_sem]
  refine CallU.free con_sane17 (by simp only [go_sem]) (by simp only [go_sem]) ?_
  rintro r bx rfl
  simp only [go_sem]
  refine CallU.free (con_dFew l) (by simp only [go_sem]) (by simp only [go_sem]) ?_
  rintro r bx rfl
  by_cases hf : (l.length : Int) ≤ 400
  case neg =>
    simp only [go_sem, hf]
    refine CallU.free con_sane17 (by simp only [go_sem]) (by simp only [go_sem]) ?_
    rintro r bx rfl
    simp only [go_sem]
  simp only [go_sem, hf]
  refine CallU.news (bx0 := []) (con_dNew l) (by simp only [go_sem]) (by simp only [go_sem]) (by simp only [go_sem]) (by simp only [go_sem]) (by simp only [go_sem]) ?_
  rintro r b ⟨rfl, rfl⟩
  simp only [go_sem]
  refine CallU.boxes (i := 0) (is := []) (bx0 := [deckA l (0, 11400714819323198485)]) (con_dModel1 l (0, 11400714819323198485) (deck_dk hf)) (by simp only [go_sem]) (by simp only [go_sem]) (by simp only [go_sem]) (by simp only [go_sem]) (by simp only [go_sem]) ?_
  rintro r b ⟨ns, np, rules, x0, v0, s1, hM, hd1, rfl, rfl⟩
  have hns := hM.hns; have hnp := hM.hnp
  have l1 : (nmL qB ns).length = ns := nmL_len _ _
  have l2 : (nmL pB np).length = np := nmL_len _ _
  have m1 : (dealtM ns np rules (cfgC x0 v0)).states = nmL qB ns := rfl
  have m2 : (dealtM ns np rules (cfgC x0 v0)).places = nmL pB np := rfl
  have m3 : (dealtM ns np rules (cfgC x0 v0)).rules = rules := rfl
  have hlr := hM.len
  obtain ⟨mm, hmm⟩ : ∃ mm, mm = dealtM ns np rules (cfgC x0 v0) := ⟨_, rfl⟩
  rw [← hmm] at m1 m2 m3 ⊢
  have hr : roomFor rules.length 232 := by simp only [roomFor]; omega
  have ht1 : ((nmL qB ns).map vStr).take 1 = (nmL qB 1).map vStr := by rw [← List.map_take, nmL_take hns.1]
  simp only [go_sem, m1, m2, m3, vss, l1, ht1]
  refine ⟨hns.1, hr, ?_⟩
  refine LoopK.intro (fun i : Nat => ⟨158, [(3, .pb 0 0), (4, .pb 1 0), (41, vi rules.length), (42, vi i)], [deckA l s1, [vi mm.kind, vss (nmL qB 1), vss (nmL pB np), vss mm.letters, vs 0 mm.ranks, vi mm.levels, vi mm.age, .sl 2432 14 ((zRs rules i).map vRule), vi mm.start.n, .sl 0 2 (mm.start.kids.map vV)]]⟩)
    (fun i => rules.length - i) (fun i => i ≤ rules.length) 0 (by omega) ?_ ?_
  · simp only [go_sem, vss, zRs_zero]
  rintro i hi
  by_cases hlt : i < rules.length
  · have hw : IntKind.i64.wrap ((i : Int) + 1) = (i : Int) + 1 := wrap_in (by omega) (by omega)
    have hil : i < (zRs rules i).length := by rw [zRs_len]; exact hlt
    have hat := zRs_at hlt
    have hnx := zRs_next hlt
    obtain ⟨r, er⟩ : ∃ r, r = rules[i]! := ⟨_, rfl⟩
    have hg : ((zRs rules i).map vRule)[i]? = some (vRule r) := by rw [List.getElem?_map, List.getElem?_eq_getElem hil, ← getElem!_pos _ i hil, hat, er]; rfl
    rw [← er] at hnx
    have hle := up_le (t := 2432) (r := r) hil
    rw [hnx] at hle
    obtain ⟨L, hL⟩ : ∃ L, L = (zRs rules i).map vRule := ⟨_, rfl⟩
    have hLl : L.length = rules.length := by rw [hL, List.length_map, zRs_len]
    have hLi : i < L.length := by omega
    rw [← hL] at hg hle ⊢
    obtain ⟨u1, u2, u3⟩ := up_three hg
    have hll : ∀ x, (L.set i x).length = L.length := fun _ => List.length_set
    simp only [go_sem, hlt, vss]
    refine DrawK.meet ⟨158, [(3, .pb 0 0), (4, .pb 1 0), (5, vi i), (41, vi rules.length), (42, vi i)], [deckA l s1, [vi mm.kind, vss (nmL qB 1), vss (nmL pB np), vss mm.letters, vs 0 mm.ranks, vi mm.levels, vi mm.age, .sl 2432 14 (L.set i (rA r 0 0 .nil)), vi mm.start.n, .sl 0 2 (mm.start.kids.map vV)]]⟩ ?_ ?_
    · refine DrawK.tree effTree mixed (by kernel_rfl) ?_
      unfold effTree
      repeat' (first | with_reducible apply andK_mk | simp only [go_sem, vss, hLi, hll, u1, u2, u3])
    simp only [go_sem, vss, hw]
    refine roundK.intro (i + 1) (by omega) (by omega) ?_
    simp only [go_sem]
    exact hle
  have ei : i = rules.length := by omega
  rw [ei, zRs_full]
  have hll : ¬ rules.length < rules.length := by omega
  obtain ⟨em, hem⟩ : ∃ em, em = { mm with states := nmL qB 1 } := ⟨_, rfl⟩
  have hemO : Own em := by rw [hem, hmm]; exact dealt_own (ns := 1) (np := np) (rules := rules) (st := cfgC x0 v0) (by omega) hnp
  have e1 : em.states.length = 1 := by rw [hem]; exact nmL_len _ _
  have e2 : em.places.length = np := by rw [hem]; show mm.places.length = np; rw [m2, l2]
  obtain ⟨x, v, e, g1, g2, g3⟩ := cfV_cons (l := l) (s := s1) (ns := 1) (by omega) np
  have hcf := con_dConfig l s1 em hemO hd1 x v (by rw [e1, e2]; exact e) (by rw [e1, e2]; exact cfg_conf g1 g2 fun y hy => by have := g3 y hy; omega)
  have hx0 : x = 0 := by omega
  subst hx0
  rw [e1, e2] at hcf
  have hd2 : Dk l (cfS l s1 ((1 : Nat) : Int) (np + 1)) := cfS_dk hd1 _
  generalize cfS l s1 ((1 : Nat) : Int) (np + 1) = s2 at hcf hd2
  have hM2 := dealt_zero hM ⟨g2, g3⟩
  have hG := hM2.good
  obtain ⟨fm, hfm⟩ : ∃ fm, fm = dealtM 1 np (rules.map zR) (cfgC 0 v) := ⟨_, rfl⟩
  have n0 : fm = { mm with states := nmL qB 1, rules := rules.map zR, start := cfgC 0 v } := by rw [hfm, hmm]; rfl
  rw [← hfm] at hG
  simp only [go_sem, hll, vss]
  refine CallU.hide [] [.pb 0 0, hidA em] (i := 0) (is := []) (bx0 := [deckA l s1]) hcf (by simp only [go_sem]) ?_ (by simp only [go_sem]) (by simp only [go_sem]) (by simp only [go_sem]) (by simp only [go_sem]) (by simp only [go_sem]) ?_
  · simp only [go_sem, hidA, hem, m2, vss]
    exact leV_ag ⟨leV_refl _, leV_refl _, leV_refl _, leV_refl _, leV_refl _, leV_refl _, leV_refl _, leV_any _, leV_any _, leV_any _, trivial⟩
  rintro r' b ⟨rfl, rfl⟩
  have hfk := cfg_kids 0 v
  have hfn : (cfgC 0 v).n = 0 := rfl
  by_cases hr0 : rules.length = 0
  · simp only [go_sem, hr0, List.length_map]
    refine CallU.freeze (con_rmcheck fm hG) (by simp only [go_sem]) (by simp only [go_sem, vM, cM, vss, n0, m2, hfk, hfn]) ?_
    rintro r' bx rfl
    simp only [go_sem]
  have hrb : ((rules.length : Int) == 0) = false := beq_eq_false_iff_ne.2 (by omega)
  simp only [go_sem, List.length_map, hrb]
  refine CallU.boxes (i := 0) (is := []) (bx0 := [deckA l s2]) (con_dWord l s2 rules.length 6 hd2 (by omega) (by omega)) (by simp only [go_sem]) (by simp only [go_sem]) (by simp only [go_sem]) (by simp only [go_sem]) (by simp only [go_sem]) ?_
  rintro r' b ⟨rfl, rfl⟩
  have hwl : (wdV l s2 rules.length 6).length ≤ 6 := by
    have := (wdN_le (l := l) (s := s2) (most := 6) (by omega)).2
    unfold wdV
    rw [smV_len]; omega
  have hwr : RulesOk fm.rules (wdV l s2 rules.length 6) := fun y hy => by
    unfold wdV at hy
    have := smV_low (l := l) (most := (rules.length : Int) - 1) (by omega) _ y hy
    rw [n0]
    show 0 ≤ y ∧ y < ((rules.map zR).length : Int)
    rw [List.length_map]; omega
  have hd3 : Dk l (wdS l s2 rules.length 6) := wdS_dk hd2
  generalize wdV l s2 rules.length 6 = c at hwl hwr
  generalize wdS l s2 rules.length 6 = s3 at hd3
  have hst : fm.rules.all stillB = true := by
    rw [n0, List.all_eq_true]
    intro r hr
    obtain ⟨q, _, rfl⟩ := List.mem_map.1 hr
    rfl
  have hef := con_cEffect fm c hG hst hwr (by omega)
  have lf : fm.places.length = np := by rw [n0]; show mm.places.length = np; rw [m2, l2]
  rw [lf] at hef
  simp only [go_sem]
  refine CallU.freeze hef (by simp only [go_sem]) (by simp only [go_sem, vM, cM, vss, n0, m2, hfk, hfn]) ?_
  rintro r' bx rfl
  have nl := needL_len np fm.rules c
  have cl := chgL_len np fm.rules c
  have hnb : ((np : Int) != (np : Int)) = false := by simp
  simp only [go_sem, l2, nl, cl, hnb]
  have hsv := smV_low (l := l) (s := s3) (most := 6) (by omega) np
  have hsl := smV_len (l := l) (s := s3) (most := 6) np
  refine CallU.boxes (i := 0) (is := []) (bx0 := [deckA l s3]) (con_dSmallF l s3 np 6 hd3 (by omega) (by omega)) (by simp only [go_sem]) (by simp only [go_sem]) (by simp only [go_sem]) (by simp only [go_sem]) (by simp only [go_sem]) ?_
  rintro r' b ⟨rfl, rfl⟩
  generalize smV l s3 6 np = u at hsv hsl
  generalize smS l s3 6 np = s4
  simp only [go_sem]
  refine CallU.free (con_rWord u (by omega)) (by simp only [go_sem]) (by simp only [go_sem]) ?_
  rintro r' bx rfl
  have hru : roomFor (1 + u.length) 32 := by simp only [roomFor]; omega
  have hsm := good_small hG
  rw [lf] at hsm
  have huv : ∀ y ∈ u, 0 ≤ y ∧ y ≤ 6 := hsv
  have hv1 : vecB u = true := small_vec (fun y hy => by have := huv y hy; omega) (by omega)
  have hv2 : vecB (needL np fm.rules c) = true := need_vec hsm hwr (by omega) (by omega)
  have hlq := leq_need hv2 hv1 (fun y hy => (huv y hy).1) hsl
  have hle0 := kidsZ_le 0 (0 :: u)
  have hleq := con_rvecLeq (needL np fm.rules c) u (by omega) (by omega)
  have hrc : ∀ k, k < fm.rules.length → RuleC 1 np fm.rules[k]! ∧ fm.rules[k]!.move = [] ∧ fm.rules[k]!.src = 0 ∧ fm.rules[k]!.dst = 0 := fun k hk => by
    have h1 := rule_c (hG.rules _ (mem_bangI hk)).1
    have h2 : fm.rules[k]! ∈ fm.rules := mem_bangI hk
    rw [n0] at h2
    obtain ⟨q, _, hq⟩ := List.mem_map.1 h2
    have lf1 : fm.states.length = 1 := by rw [n0]; exact nmL_len _ _
    rw [lf, lf1] at h1
    refine ⟨h1, ?_⟩
    have e : fm.rules[k]! = zR q := by rw [hq, n0]
    rw [e]
    exact ⟨rfl, rfl, rfl⟩
  simp only [go_sem]
  refine ⟨hru, ?_⟩
  refine LoopK.freeze (fun _ => true) (fun j : Nat => ⟨158, [(4, .pb 1 0), (7, vs 0 (needL np fm.rules c)), (8, vs 0 (chgL np fm.rules c)), (10, vi np), (11, vs 0 u), (12, .pb 2 0), (13, vb true), (111, vs 0 c), (112, vi c.length), (113, vi j)],
      [.any, .any, .any] :: cM fm :: [vi 0, .sl 0 2 (kidZ 0 :: (stepL np fm.rules (c.take j) u).map kidZ)] :: Rk 2 j⟩)
    (fun j => c.length - j) (fun j => j ≤ c.length ∧ ∀ p, p < np → feas (tksF fm.rules (c.take j) p) u[p]!) 0 ⟨by omega, fun p _ => trivial⟩ ?_ ?_
  · rw [List.take_zero, stepL_nil hsl]
    simp only [go_sem, cM, vss, n0, m2, hfk, hfn]
    exact ⟨hle0, trivial⟩
  rintro j ⟨hj, hfe⟩
  have hlow : ∀ p, p < np → 0 ≤ (stepL np fm.rules (c.take j) u)[p]! ∧ (stepL np fm.rules (c.take j) u)[p]! ≤ 2000 := fun p hp =>
    stepL_low hsm (rules_take j hwr) (by rw [List.length_take]; omega) huv hsl hp (hfe p hp)
  by_cases hjl : j < c.length
  · have hck := hwr _ (mem_bangI hjl)
    obtain ⟨k, ek, hk⟩ : ∃ k : Nat, c[j]! = k ∧ k < fm.rules.length := ⟨c[j]!.toNat, by omega, by omega⟩
    have hg := getv hjl
    rw [ek] at hg
    have hB := Rk_len 2 j
    have a0 := fun L : List (List AV) => app_at0 (L := L) hB
    have s0 := fun (L : List (List AV)) z => app_set0 (L := L) (z := z) hB
    have hw : IntKind.i64.wrap (j + 1) = j + 1 := wrap_in (by omega) (by omega)
    obtain ⟨hr1, hr2, hr3, hr4⟩ := hrc k hk
    have hC : GoodC fm 0 (stepL np fm.rules (c.take j) u) := ⟨by rw [n0]; show 0 < (nmL qB 1).length; rw [nmL_len]; omega, by rw [stepL_len, lf], fun y hy => by
      obtain ⟨p, hp, ep⟩ := List.getElem_of_mem hy
      have h1 := hlow p (by rw [stepL_len] at hp; exact hp)
      rw [getElem!_pos _ p hp, ep] at h1
      omega⟩
    have hap := con_capplyU fm k 0 _ hG hk hC
    have hen := en_feas (np := np) (rules := fm.rules) (c := c) (v := u) (j := j) (by rw [ek, Int.toNat_natCast]; exact hr1.need.1) (by rw [ek, Int.toNat_natCast]; exact hr3) hjl hfe
    have hnx := step_next (ns := 1) (np := np) (rules := fm.rules) (c := c) (v := u) (j := j) (by rw [ek, Int.toNat_natCast]; exact hr1) (by rw [ek, Int.toNat_natCast]; exact hr2) hjl
    rw [ek, Int.toNat_natCast] at hen hnx
    obtain ⟨vj, hvj⟩ : ∃ vj, vj = stepL np fm.rules (c.take j) u := ⟨_, rfl⟩
    rw [← hvj] at hap hen hnx ⊢
    simp only [go_sem, hjl, hg, cM, vss]
    refine CallU.free hap (by simp only [go_sem]) (by simp only [go_sem, vM, cM, vss]) ?_
    rintro r' bx rfl
    by_cases he : enF fm.rules[k]! 0 vj = true
    case neg =>
      have eE : appE fm.rules[k]! 0 vj = 18 := by unfold appE; rw [if_neg he]
      have eq : leqV (needL np fm.rules c) u = false := by
        rw [Bool.eq_false_iff]
        intro h
        exact he (hen.2 fun p hp => feas_part (hlq.1 h p hp) (j + 1))
      simp only [go_sem, hB, a0, s0, eE]
      refine CallU.free hleq (by simp only [go_sem]) (by simp only [go_sem]) ?_
      rintro r' bx rfl
      simp only [go_sem, eq]
      refine LoopK.intro (fun _ : Unit => ⟨158, [(13, vb false), (18, vi 0)], List.replicate 3 .any :: List.replicate 10 .any :: List.replicate 2 .any :: Rk 2 (j + 1)⟩) (fun _ => 0) (fun _ => True) () trivial ?_ ?_
      · simp only [go_sem, Rk_succ]
        exact ⟨leC_any _ 3 rfl, leC_any _ 10 rfl, leC_any _ 2 rfl, leB_RkA ⟨leC_any _ 2 rfl, trivial⟩⟩
      rintro _ _
      simp only [go_sem]
    have hf2 := hen.1 he
    have ho : okV (moveV fm.rules[k]! vj) = true := by
      rw [hnx]
      refine okV_ok fun p hp => ?_
      rw [stepL_len] at hp
      have := stepL_low hsm (rules_take (j + 1) hwr) (by rw [List.length_take]; omega) huv hsl hp (hf2 p hp)
      omega
    have eE : appE fm.rules[k]! 0 vj = 0 := by unfold appE; rw [if_pos he, if_pos ho]
    have eL : appL fm.rules[k]! 0 vj = 0 :: stepL np fm.rules (c.take (j + 1)) u := by unfold appL; rw [if_pos he, if_pos ho, hnx, hr4]; rfl
    simp only [go_sem, hB, a0, s0, eE, eL, hw]
    refine roundK.intro (j + 1) ⟨by omega, hf2⟩ (by omega) ?_
    simp only [go_sem, Rk_succ]
    exact leB_RkA ⟨leC_any _ 2 rfl, trivial⟩
  have e1 : c.take j = c := List.take_of_length_le (by omega)
  rw [e1] at hfe hlow ⊢
  have eq : leqV (needL np fm.rules c) u = true := hlq.2 hfe
  have hlen := stepL_len np fm.rules c u
  simp only [go_sem, hjl]
  refine CallU.free hleq (by simp only [go_sem]) (by simp only [go_sem]) ?_
  rintro r' bx rfl
  simp only [go_sem, eq]
  refine LoopK.intro (fun i : Nat => ⟨158, [(8, vs 0 (chgL np fm.rules c)), (10, vi np), (11, vs 0 u), (12, .pb 2 0), (13, vb true), (18, vi i)], List.replicate 3 .any :: List.replicate 10 .any :: [vi 0, .sl 0 2 (kidZ 0 :: (stepL np fm.rules c u).map kidZ)] :: Rk 2 j⟩)
    (fun i => np - i) (fun i => i ≤ np) 0 (by omega) ?_ ?_
  · simp only [go_sem]
    repeat' (first | exact leV_any _ | exact leC_any _ 3 rfl | exact leC_any _ 10 rfl | exact leB_self _ | refine ⟨?_, ?_⟩)
  rintro i hi
  by_cases hin : i < np
  · have hw : IntKind.i64.wrap (i + 1) = i + 1 := wrap_in (by omega) (by omega)
    have hw4 : IntKind.i64.wrap (1 + (i : Int)) = (i : Int) + 1 := by rw [wrap_in (by omega) (by omega)]; omega
    have ht : ((i : Int) + 1).toNat = i + 1 := by omega
    have hnn : (0 : Int) ≤ (i : Int) + 1 := by omega
    have hsl' : i < (stepL np fm.rules c u).length := by omega
    have q6 : (i : Int) + 1 < ((stepL np fm.rules c u).length : Int) + 1 := by omega
    have hgs : (AV.ag [.sc (.int .i64 0), .sl 0 2 []] :: (stepL np fm.rules c u).map kidZ)[i + 1]? = some (.ag [.sc (.int .i64 (stepL np fm.rules c u)[i]!), .sl 0 2 []]) := getZ hsl'
    have hul : i < u.length := by omega
    have hcl : i < (chgL np fm.rules c).length := by omega
    have hgu := getv hul
    have hgc := getv hcl
    have hl2 := hlow i hin
    have hat := stepL_at (rules := fm.rules) (c := c) (v := u) hin
    have hca := chgL_at (rules := fm.rules) (c := c) hin
    have w1 : IntKind.i64.wrap (u[i]! + (chgL np fm.rules c)[i]!) = u[i]! + (chgL np fm.rules c)[i]! := wrap_in (by omega) (by omega)
    have hb : ((stepL np fm.rules c u)[i]! != u[i]! + (chgL np fm.rules c)[i]!) = false := by rw [hat, hca]; simp
    simp only [go_sem, hin]
    refine DrawK.walk 17 mixed (by kernel_rfl) ?_
    simp only [go_sem, hw4, ht, hnn, q6, hgs, hul, hcl, hgu, hgc, w1, hb, hw]
    refine roundK.intro (i + 1) (show i + 1 ≤ np by omega) (show np - (i + 1) < np - i by omega) ?_
    simp only [go_sem]
    repeat' (first | exact leV_any _ | exact leC_self _ | exact leB_self _ | exact leV_refl _ | refine ⟨?_, ?_⟩)
  · simp only [go_sem, hin]
end Go.AM

/-! ## Closed1P -/
namespace Go.Proofs.YtpmodjodfimejaaGreat
open Go.ChangeShapes Go.WideShapes Go.ChangeAt Go.RowKit Go.AM

theorem and_mk {a b : Bool} (h1 : a = true) (h2 : b = true) : (a && b) = true := by rw [h1, h2]; rfl
theorem cLaid : laidOutB Tryz.prog = true := by kernel_rfl
theorem cRowed : mapsRowed Tryz.prog = true := by kernel_rfl
theorem cHeard : Tryz.prog.stopsHeard = true := by kernel_rfl
theorem cEnter : Tryz.prog.mayEnter = true := by kernel_rfl
theorem cLifts : (Rows.counterEffectsRow.lifted == Tryz.prog.liftsFinal) = true := by kernel_rfl
theorem counterEffectsC0 : (Rows.counterEffectsRow.wf (OpenSpec.ofChange Rows.counterEffectsSpec)) = true := by kernel_rfl
theorem counterEffectsC3 : (Tryz.f10.params.all (Tryz.prog.readableRec ·)) = true := by kernel_rfl
theorem counterEffectsC4 : (namedTie Tryz.prog Rows.counterEffectsRow.named Rows.counterEffectsSpec.vars) = true := by kernel_rfl
theorem counterEffectsC5 : ((Rows.counterEffectsRow.stops == [])) = true := by kernel_rfl
theorem counterEffectsC6 : ((Tryz.prog.stops == [])) = true := by kernel_rfl
theorem counterEffectsC7 : ((Rows.counterEffectsRow.knobs == [])) = true := by kernel_rfl
theorem counterEffectsC8 : ((Tryz.prog.stopKnobs == [])) = true := by kernel_rfl
theorem counterEffectsC9 : ((Rows.counterEffectsRow.inPlace == Tryz.prog.inPlace 10)) = true := by kernel_rfl
theorem counterEffectsC10 : ((Rows.counterEffectsRow.unfollowed == Tryz.prog.unfollowed 10)) = true := by kernel_rfl
theorem counterEffectsC11 : ((Rows.counterEffectsRow.recurses == Tryz.prog.recurses 10)) = true := by kernel_rfl
theorem counterEffectsC12 : ((Rows.counterEffectsRow.named == Tryz.prog.varsNamed 10)) = true := by kernel_rfl
theorem counterEffectsC13 : ((Rows.counterEffectsRow.maps == (Tryz.f10.params.toList ++ Rows.counterEffectsSpec.plain.varTypes Tryz.prog).any (Tryz.prog.mapsRec ·))) = true := by kernel_rfl
theorem counterEffectsC14 : ((Rows.counterEffectsRow.ifaces == (Tryz.f10.params.toList ++ Rows.counterEffectsSpec.plain.varTypes Tryz.prog).any (Tryz.prog.ifacesRec ·))) = true := by kernel_rfl
theorem counterEffectsC15 : ((Rows.counterEffectsRow.mapsOut == Tryz.prog.mapsAmong Tryz.f10.resultTypes.toList)) = true := by kernel_rfl
theorem counterEffectsC16 : ((Rows.counterEffectsRow.loops == (Tryz.f10.params.toList ++ Rows.counterEffectsSpec.plain.varTypes Tryz.prog).any (Tryz.prog.loopsFrom ·))) = true := by kernel_rfl
theorem counterEffectsC17 : ((Rows.counterEffectsRow.wideKeys == (Tryz.f10.params.toList ++ Rows.counterEffectsSpec.plain.varTypes Tryz.prog ++ Tryz.f10.resultTypes.toList).any (Tryz.prog.wideKeysFrom ·))) = true := by kernel_rfl
theorem counterEffectsC18 : (Rows.counterEffectsSpec.vars.all (Tryz.prog.varReadable ·)) = true := by kernel_rfl
theorem counterEffectsC19 : (Tryz.f10.resultTypes.all (fun t => Tryz.prog.readableRec t && decide (t < Tryz.prog.types.size))) = true := by kernel_rfl
theorem counterEffectsC20 : ((Rows.counterEffectsRow.ifacesOut == Tryz.f10.resultTypes.toList.any (Tryz.prog.ifacesRec ·))) = true := by kernel_rfl
theorem counterEffectsC21 : ((Rows.counterEffectsRow.loopsOut == Tryz.f10.resultTypes.toList.any (Tryz.prog.loopsFrom ·))) = true := by kernel_rfl
theorem counterEffectsC22 : ((Rows.counterEffectsRow.plainKeys == Tryz.prog.plainKeys)) = true := by kernel_rfl
theorem counterEffectsC23 : (Rows.counterEffectsRow.shortTexts.isNone) = true := by kernel_rfl
theorem counterEffectsC27 : ((Tryz.prog.make == some Rows.counterEffectsRow.make)) = true := by kernel_rfl
theorem counterEffectsC28 : ((Rows.counterEffectsRow.kinds == (if Rows.counterEffectsRow.domain.isEmpty then [] else Tryz.f10.params.toList.map fun t => match Tryz.prog.underlying t with | some (.int k) => some k | _ => none))) = true := by kernel_rfl
theorem counterEffectsC29 : ((Rows.counterEffectsRow.pinned == Rows.counterEffectsRow.pinnedBy)) = true := by kernel_rfl
theorem counterEffectsC30 : ((Rows.counterEffectsRow.veiled == (Tryz.f10.params.toList ++ Rows.counterEffectsSpec.plain.varTypes Tryz.prog ++ Tryz.f10.resultTypes.toList).any (Tryz.prog.veiledRec ·))) = true := by kernel_rfl
theorem counterEffectsC31 : (Rows.counterEffectsRow.veiledFits Tryz.prog Tryz.f10.params.toList (Tryz.f10.params.toList ++ Rows.counterEffectsSpec.plain.varTypes Tryz.prog ++ Tryz.f10.resultTypes.toList)) = true := by kernel_rfl
end Go.Proofs.YtpmodjodfimejaaGreat

/-! ## Closed1Pz -/
namespace Go.Proofs.YtpmodjodfimejaaGreat
open Go.ChangeShapes Go.WideShapes Go.ChangeAt Go.RowKit Go.AM

set_option maxRecDepth 100000 in
theorem counterEffectsClosed : joinedFacts Tryz.prog 10 Tryz.f10 Rows.counterEffectsSpec Rows.counterEffectsRow = true := by
  unfold joinedFacts
  exact and_mk (and_mk (and_mk (and_mk (and_mk (and_mk (and_mk (and_mk (and_mk (and_mk (and_mk (and_mk (and_mk (and_mk (and_mk (and_mk (and_mk (and_mk (and_mk (and_mk (and_mk (and_mk (and_mk (and_mk (and_mk (and_mk (and_mk (and_mk (and_mk (and_mk (and_mk counterEffectsC0 cLaid) cRowed) counterEffectsC3) counterEffectsC4) counterEffectsC5) counterEffectsC6) counterEffectsC7) counterEffectsC8) counterEffectsC9) counterEffectsC10) counterEffectsC11) counterEffectsC12) counterEffectsC13) counterEffectsC14) counterEffectsC15) counterEffectsC16) counterEffectsC17) counterEffectsC18) counterEffectsC19) counterEffectsC20) counterEffectsC21) counterEffectsC22) counterEffectsC23) cHeard) cEnter) cLifts) counterEffectsC27) counterEffectsC28) counterEffectsC29) counterEffectsC30) counterEffectsC31
theorem counterEffectsNamed : Tryz.prog.funcNamed Rows.counterEffectsRow.func = some 10 := by kernel_rfl
end Go.Proofs.YtpmodjodfimejaaGreat
