/-
  CounterGrows: the walk of the law.
  Walks: the reference's vectors: which are valid, which are at most another one.
  Sequences of rules without moves in models of one state: plain laws.
  CounterResets: the walk of the law.
  Closed facts of rows, one by one.
  Closed facts of rows, together.
-/
import Derived.Test.YtpmodjodfimejaaGreatg9
import Derived.Test.YtpmodjodfimejaaGreatg5
import Derived.Test.YtpmodjodfimejaaGreatg7
/-! ## HR -/
namespace Go.AM
open Go Go.Proofs Go.RowKit

theorem con_dConfigF (l : List Int) (s : DS) (m : MD) (h : Own m) (hd : Dk l s) (x : Nat) (v : List Int) (e : cfV l s m.states.length (m.places.length + 1) = (x : Int) :: v) (hc : confB m.states.length m.places.length (cfgC x v) = true) :
    Con Tryz.prog 31 [.pb 0 0, vM m] [deckA l s] fun r b => r = cfgO 0 x v ∧ b = [deckA l (cfS l s m.states.length (m.places.length + 1))] :=
  (((con_dConfig l s m h hd x v e hc).leA (args' := [.pb 0 0, vM m]) ⟨leV_refl _, hid_le m, trivial⟩).freezeB fun _ => true).mono fun r b ⟨r1, b1, ⟨h1, h2⟩, h3, h4⟩ => by
    subst h1; subst h2; subst h3; subst h4
    exact ⟨rfl, rfl⟩
theorem con_dAboveF (l : List Int) (st : DS) (m : MD) (s : Nat) (v : List Int) (hd : Dk l st) (h : GoodM m) (hc : GoodC m s v) :
    Con Tryz.prog 52 [.pb 0 0, vM m, cfgO 0 s v] [deckA l st] fun r b => ∃ (v' : List Int) (st' : DS), (v'.length = m.places.length ∧ ∀ i, i < m.places.length → v[i]! ≤ v'[i]! ∧ v'[i]! ≤ 1048576) ∧ Dk l st' ∧ r = cfgO 0 s v' ∧ b = [deckA l st'] :=
  ((con_dAbove l st m s v hd h hc).freezeB fun _ => true).mono fun r b ⟨r1, b1, ⟨v', st', h1, h2, h3, h5⟩, h4, h6⟩ => by
    subst h3; subst h5; subst h4; subst h6
    exact ⟨v', st', h1, h2, rfl, rfl⟩
theorem con_rTypeF (m : MD) (h : GoodM m) : Con Tryz.prog 26 [vM m] [] fun r _ => r = .tup [flatT 0 (partsP m.states.length m.places.length), vi 0] :=
  (Con.freezeR (fun _ => true) (con_rType m h)).weak fun r b ⟨r0, h0, h1⟩ => by
    subst h0; subst h1
    exact ⟨_, rfl, leV_refl _⟩
theorem cfgN_le (s : Nat) (v : List Int) : leV (cfgN 0 s v) (cfgO 0 s v) := by
  have := cfg_le s v
  rw [cfgZ_eq] at this
  exact this

/-- what Apply answers: an error, the numbers of the configuration -/
def appE (r : RD) (s : Nat) (v : List Int) : Int := if enF r s v = true then (if okV (moveV r v) = true then 0 else 1) else 18
def appL (r : RD) (s : Nat) (v : List Int) : List Int := if enF r s v = true then (if okV (moveV r v) = true then (r.dst.toNat : Int) :: moveV r v else []) else []
theorem con_capplyU (m : MD) (i : Nat) (s : Nat) (v : List Int) (h : GoodM m) (hi : i < m.rules.length) (hc : GoodC m s v) :
    Con Tryz.prog 46 [vM m, vi i, cfgO 0 s v] [] fun x _ => x = .tup [.ag [vi 0, .sl 0 2 ((appL m.rules[i]! s v).map kidZ)], vi (appE m.rules[i]! s v)] := by
  have ha := con_capply m i s v h hi hc
  rw [cfgZ_eq] at ha
  refine (Con.freezeR (fun _ => true) ha).weak fun r b ⟨r0, h0, h1⟩ => ?_
  subst h0; subst h1
  refine ⟨_, rfl, ?_⟩
  unfold appA appE appL
  split
  · split
    · refine leV_tup ⟨?_, leV_refl _, trivial⟩
      exact cfgN_le _ _
    · exact leV_tup ⟨leV_ag ⟨leV_refl _, leV_nil _ _, trivial⟩, leV_refl _, trivial⟩
  · exact leV_tup ⟨leV_ag ⟨leV_refl _, leV_nil _ _, trivial⟩, leV_refl _, trivial⟩

section
variable {m : MD} {s i : Nat} {v v' : List Int}
/-- what is behind a rule is a configuration -/
theorem app_conf (h : GoodM m) (hi : i < m.rules.length) (hc : GoodC m s v) (he : enF m.rules[i]! s v = true) (ho : okV (moveV m.rules[i]! v) = true) : GoodC m m.rules[i]!.dst.toNat (moveV m.rules[i]! v) := by
  have hr := rule_c (h.rules _ (mem_bangI hi)).1
  have hle := (en_le he).2
  have hl : (moveV m.rules[i]! v).length = m.places.length := by unfold moveV; rw [moveN_len, hr.give.1]
  refine ⟨by have := hr.dst; omega, hl, fun x hx => ?_⟩
  obtain ⟨j, hj, e⟩ := List.getElem_of_mem hx
  have hb := moveN_bnd (v := v) hr (fun k hk => by
    have a1 := hle k (by rw [hr.need.1]; exact hk)
    have a2 := hc.low _ (mem_bangI (show k < v.length by rw [hc.len]; exact hk))
    have a3 := hr.need.2 _ (mem_bangI (show k < m.rules[i]!.need.length by rw [hr.need.1]; exact hk))
    omega) v.length (by rw [hc.len]; exact Nat.le_refl _) j
  have ho' := (List.all_eq_true.1 ho) x hx
  rw [decide_eq_true_eq] at ho'
  have e2 : (moveN m.rules[i]! v v.length)[j]! = x := by
    show (moveV m.rules[i]! v)[j]! = x
    rw [getElem!_pos _ j hj, e]
  rw [e2] at hb
  exact ⟨hb.1, ho'⟩
theorem app_mono (h : GoodM m) (hi : i < m.rules.length) (hv : v.length = m.places.length) (hv' : v'.length = m.places.length) (hle : ∀ j, j < m.places.length → v[j]! ≤ v'[j]!) (d : Nat) :
    cfgLe d (moveV m.rules[i]! v) d (moveV m.rules[i]! v') = true := by
  have hr := rule_c (h.rules _ (mem_bangI hi)).1
  unfold cfgLe
  simp only [beq_self_eq_true, Bool.true_and, List.all_eq_true, List.mem_range, decide_eq_true_eq]
  intro j hj
  unfold moveV
  rw [hv, hv']
  exact move_mono hr hle m.places.length (Nat.le_refl _) j
end

set_option maxRecDepth 100000 in
set_option maxHeartbeats 4000000 in
theorem con_growsLaw (l : List Int) : Con Tryz.prog 9 [vs 0 l] [] fun r _ => r = vb true := by
  refine Con.intro Tryz.func9 rfl Tryz.ntmps9 Tryz.results9 (by kernel_rfl) (by simp) 0 (by simp) ?_
  simp only [go_sem]
  refine CallU.free con_sane17 (by simp only [go_sem]) (by simp only [go_sem]) ?_
  rintro r bx rfl
  simp only [go_sem]
  refine CallU.free (con_dFew l) (by simp only [go_sem]) (by simp only [go_sem]) ?_
  rintro r bx rfl
  by_cases hf : (l.length : Int) ≤ 400
  case neg =>
    simp only [go_sem, hf]
    refine CallU.free con_sane17 (by simp only [go_sem]) (by simp only [go_sem]) ?_
    rintro r bx rfl
    simp only [go_sem]
  simp only [go_sem, hf]
  refine CallU.news (bx0 := []) (con_dNew l) (by simp only [go_sem]) (by simp only [go_sem]) (by simp only [go_sem]) (by simp only [go_sem]) (by simp only [go_sem]) ?_
  rintro r b ⟨rfl, rfl⟩
  simp only [go_sem]
  refine CallU.boxes (i := 0) (is := []) (bx0 := [deckA l (0, 11400714819323198485)]) (con_dModel1 l (0, 11400714819323198485) (deck_dk hf)) (by simp only [go_sem]) (by simp only [go_sem]) (by simp only [go_sem]) (by simp only [go_sem]) (by simp only [go_sem]) ?_
  rintro r b ⟨ns, np, rules, x0, v0, s1, hM, hd1, rfl, rfl⟩
  have hns := hM.hns; have hnp := hM.hnp
  have hG := hM.good
  have l1 : (dealtM ns np rules (cfgC x0 v0)).states.length = ns := nmL_len _ _
  have l2 : (dealtM ns np rules (cfgC x0 v0)).places.length = np := nmL_len _ _
  have hO := dealt_own (rules := rules) (st := cfgC x0 v0) hns hnp
  have hlr : (dealtM ns np rules (cfgC x0 v0)).rules.length ≤ 4 := hM.len
  generalize dealtM ns np rules (cfgC x0 v0) = mm at hG l1 l2 hO hlr
  obtain ⟨x, v, e, g1, g2, g3⟩ := cfV_cons (l := l) (s := s1) hns.1 np
  have hcf := con_dConfigF l s1 mm hO hd1 x v (by rw [l1, l2]; exact e) (by rw [l1, l2]; exact cfg_conf g1 g2 fun y hy => by have := g3 y hy; omega)
  have hC : GoodC mm x v := ⟨by omega, by omega, fun y hy => by have := g3 y hy; omega⟩
  have hd2 : Dk l (cfS l s1 mm.states.length (mm.places.length + 1)) := cfS_dk hd1 _
  generalize cfS l s1 mm.states.length (mm.places.length + 1) = s2 at hcf hd2
  simp only [go_sem]
  refine CallU.free (con_rTypeF mm hG) (by simp only [go_sem]) (by simp only [go_sem]) ?_
  rintro r bx rfl
  simp only [go_sem]
  refine CallU.boxes (i := 0) (is := []) (bx0 := [deckA l s1]) hcf (by simp only [go_sem]) (by simp only [go_sem]) (by simp only [go_sem]) (by simp only [go_sem]) (by simp only [go_sem]) ?_
  rintro r b ⟨rfl, rfl⟩
  simp only [go_sem]
  refine CallU.boxes (i := 0) (is := []) (bx0 := [deckA l s2]) (con_dAboveF l s2 mm x v hd2 hG hC) (by simp only [go_sem]) (by simp only [go_sem]) (by simp only [go_sem]) (by simp only [go_sem]) (by simp only [go_sem]) ?_
  rintro r b ⟨v', s3, ⟨hl', hv'⟩, hd3, rfl, rfl⟩
  have hC' : GoodC mm x v' := ⟨hC.state, hl', fun y hy => by
    obtain ⟨j, hj, ej⟩ := List.getElem_of_mem hy
    have h1 := hv' j (by omega)
    have h2 := hC.low _ (mem_bangI (show j < v.length by rw [hC.len]; omega))
    rw [getElem!_pos v' j hj, ej] at h1
    omega⟩
  by_cases hr0 : mm.rules.length = 0
  · simp only [go_sem, hr0]
  have hrb : ((mm.rules.length : Int) == 0) = false := beq_eq_false_iff_ne.2 (by omega)
  have hn := nextV_lt (l := l) (s := s3) (n := mm.rules.length) (by omega)
  obtain ⟨i, ei, hi⟩ : ∃ i : Nat, nextV l s3 mm.rules.length = i ∧ i < mm.rules.length := ⟨(nextV l s3 mm.rules.length).toNat, by omega, by omega⟩
  simp only [go_sem, hrb]
  refine CallU.boxes (i := 0) (is := []) (bx0 := [deckA l s3]) (con_dNext l s3 mm.rules.length hd3) (by simp only [go_sem]) (by simp only [go_sem]) (by simp only [go_sem]) (by simp only [go_sem]) (by simp only [go_sem]) ?_
  rintro r b ⟨rfl, rfl⟩
  have ha := con_capplyU mm i x v hG hi hC
  have ha' := con_capplyU mm i x v' hG hi hC'
  rw [ei]
  generalize nextS l s3 mm.rules.length = s4
  simp only [go_sem]
  refine CallU.free ha (by simp only [go_sem]) (by simp only [go_sem]) ?_
  rintro r bx rfl
  simp only [go_sem]
  refine CallU.free ha' (by simp only [go_sem]) (by simp only [go_sem]) ?_
  rintro r bx rfl
  have e1 : enF mm.rules[i]! x v = false ∨ enF mm.rules[i]! x v = true := by cases enF mm.rules[i]! x v <;> simp
  rcases e1 with he | he
  · have eE : appE mm.rules[i]! x v = 18 := by unfold appE; rw [if_neg (by rw [he]; decide)]
    simp only [go_sem, eE]
  by_cases ho : okV (moveV mm.rules[i]! v) = true
  case neg =>
    have eE : appE mm.rules[i]! x v = 1 := by unfold appE; rw [if_pos he, if_neg ho]
    simp only [go_sem, eE]
  have eE : appE mm.rules[i]! x v = 0 := by unfold appE; rw [if_pos he, if_pos ho]
  have eL : appL mm.rules[i]! x v = (mm.rules[i]!.dst.toNat : Int) :: moveV mm.rules[i]! v := by unfold appL; rw [if_pos he, if_pos ho]
  have he' : enF mm.rules[i]! x v' = true := en_mono he fun j hj => (hv' j (by rw [(rule_c (hG.rules _ (mem_bangI hi)).1).need.1] at hj; exact hj)).1
  by_cases ho' : okV (moveV mm.rules[i]! v') = true
  case neg =>
    have eE' : appE mm.rules[i]! x v' = 1 := by unfold appE; rw [if_pos he', if_neg ho']
    simp only [go_sem, eE, eE']
  have eE' : appE mm.rules[i]! x v' = 0 := by unfold appE; rw [if_pos he', if_pos ho']
  have eL' : appL mm.rules[i]! x v' = (mm.rules[i]!.dst.toNat : Int) :: moveV mm.rules[i]! v' := by unfold appL; rw [if_pos he', if_pos ho']
  have k1 := app_conf hG hi hC he ho
  have k2 := app_conf hG hi hC' he' ho'
  have hle := con_rLeq mm.states.length mm.places.length mm.rules[i]!.dst.toNat mm.rules[i]!.dst.toNat (moveV mm.rules[i]! v) (moveV mm.rules[i]! v') (by omega) (by omega) (by omega) k1.conf k2.conf k1.len k2.len
  rw [app_mono hG hi hC.len hC'.len (fun j hj => (hv' j hj).1)] at hle
  simp only [go_sem, eE, eE', eL, eL', List.map_cons]
  refine CallU.free hle (by simp only [go_sem]) (by simp only [go_sem]) ?_
  rintro r bx rfl
  simp only [go_sem]
end Go.AM

/-! ## VL -/
namespace Go.AM
open Go Go.Proofs Go.RowKit

/-- an element of a vector -/
def elB (x : Int) : Bool := (decide (0 ≤ x) && decide (x ≤ 1048576)) || x == 1099511627776
def vecB (l : List Int) : Bool := l.all elB && decide (l.length ≤ 6)
/-- a vector at most another one -/
def leqV (a b : List Int) : Bool := vecB a && vecB b && decide (a.length = b.length) && (List.range a.length).all fun i => decide (a[i]! ≤ b[i]!)
set_option maxRecDepth 100000 in
theorem con_relem (x : Int) : Con Tryz.prog 158 [vi x] [] fun r _ => r = vb (elB x) := by
  refine Con.intro Tryz.func158 rfl Tryz.ntmps158 Tryz.results158 (by kernel_rfl) (by simp) 0 (by simp) ?_
  unfold elB
  by_cases h1 : 0 ≤ x
  · by_cases h2 : x ≤ 1048576
    · simp only [go_sem, h1, h2, decide_true, Bool.true_and, Bool.true_or]
    · simp only [go_sem, h1, h2, decide_true, decide_false, Bool.true_and, Bool.false_or]
  · simp only [go_sem, h1, decide_false, Bool.false_and, Bool.false_or]
set_option maxRecDepth 100000 in
theorem con_rvecValid (l : List Int) (hl : l.length ≤ 1000000) : Con Tryz.prog 110 [vs 0 l] [] fun r _ => r = vb (vecB l) := by
  refine Con.intro Tryz.func110 rfl Tryz.ntmps110 Tryz.results110 (by kernel_rfl) (by simp) 0 (by simp) ?_
  unfold vecB
  simp only [go_sem]
  refine LoopK.intro (fun i : Nat => ⟨19, [(0, vs 0 l), (3, vi i)], []⟩) (fun i => l.length - i) (fun i => i ≤ l.length ∧ ∀ j, j < i → elB l[j]! = true) 0 ⟨by omega, fun j hj => by omega⟩ ?_ ?_
  · simp only [go_sem]
  rintro i ⟨hi, hj⟩
  by_cases h : i < l.length
  · have hg := getv h
    have hw : IntKind.i64.wrap (i + 1) = i + 1 := wrap_in (by omega) (by omega)
    simp only [go_sem, h, hg]
    refine CallU.free (con_relem l[i]!) (by simp only [go_sem]) (by simp only [go_sem]) ?_
    rintro r bx rfl
    cases hb : elB l[i]!
    · have e : l.all elB = false := by
        rw [List.all_eq_false]
        exact ⟨l[i]!, mem_bangI h, by rw [hb]; simp⟩
      simp only [go_sem, e, Bool.false_and]
    · simp only [go_sem, hw]
      refine roundK.intro (i + 1) ⟨by omega, fun j hj2 => ?_⟩ (by omega) ?_
      · by_cases e : j = i
        · rw [e, hb]
        · exact hj j (by omega)
      simp only [go_sem]
  · have e : l.all elB = true := by
      rw [List.all_eq_true]
      intro x hx
      obtain ⟨j, hj2, rfl⟩ := List.getElem_of_mem hx
      have := hj j (by omega)
      rw [getElem!_pos l j hj2] at this
      exact this
    have e2 : decide ((l.length : Int) ≤ 6) = decide (l.length ≤ 6) := by simp; omega
    simp only [go_sem, h, e, Bool.true_and]
set_option maxRecDepth 100000 in
theorem con_rvecLeq (a b : List Int) (ha : a.length ≤ 1000000) (hb : b.length ≤ 1000000) : Con Tryz.prog 56 [vs 0 a, vs 0 b] [] fun r _ => r = vb (leqV a b) := by
  refine Con.intro Tryz.func56 rfl Tryz.ntmps56 Tryz.results56 (by kernel_rfl) (by simp) 0 (by simp) ?_
  unfold leqV
  simp only [go_sem]
  refine CallU.free (con_rvecValid a ha) (by simp only [go_sem]) (by simp only [go_sem]) ?_
  rintro r bx rfl
  cases h1 : vecB a
  · simp only [go_sem, Bool.false_and]
  simp only [go_sem]
  refine CallU.free (con_rvecValid b hb) (by simp only [go_sem]) (by simp only [go_sem]) ?_
  rintro r bx rfl
  cases h2 : vecB b
  · simp only [go_sem, Bool.false_and]
  by_cases h3 : a.length = b.length
  case neg =>
    have h3' : ((a.length : Int) != (b.length : Int)) = true := bne_iff_ne.2 (by omega)
    simp only [go_sem, h3', h3, decide_false, Bool.and_false, Bool.false_and]
  have h3' : ((a.length : Int) != (b.length : Int)) = false := by rw [h3]; simp
  rw [decide_eq_true h3, Bool.true_and]
  simp only [go_sem, h3']
  refine LoopK.intro (fun i : Nat => ⟨36, [(0, vs 0 a), (1, vs 0 b), (5, vi i)], []⟩) (fun i => a.length - i) (fun i => i ≤ a.length ∧ ∀ j, j < i → a[j]! ≤ b[j]!) 0 ⟨by omega, fun j hj => by omega⟩ ?_ ?_
  · simp only [go_sem]
  rintro i ⟨hi, hj⟩
  by_cases h : i < a.length
  · have h' : i < b.length := by omega
    have hg := getv h
    have hg' := getv h'
    have hw : IntKind.i64.wrap (i + 1) = i + 1 := wrap_in (by omega) (by omega)
    simp only [go_sem, h]
    refine DrawK.walk 9 mixed (by kernel_rfl) ?_
    simp only [go_sem, h, h', hg, hg']
    by_cases hlt : b[i]! < a[i]!
    · have e : ((List.range a.length).all fun i => decide (a[i]! ≤ b[i]!)) = false := by
        rw [List.all_eq_false]
        exact ⟨i, List.mem_range.2 h, by rw [decide_eq_true_eq]; omega⟩
      simp only [go_sem, hlt, e]
    · simp only [go_sem, hlt, hw]
      refine roundK.intro (i + 1) ⟨by omega, fun j hj2 => ?_⟩ (by omega) ?_
      · by_cases e : j = i
        · rw [e]; omega
        · exact hj j (by omega)
      simp only [go_sem]
  · have e : ((List.range a.length).all fun i => decide (a[i]! ≤ b[i]!)) = true := by
      rw [List.all_eq_true]
      intro j hj2
      rw [List.mem_range] at hj2
      rw [decide_eq_true_eq]
      exact hj j (by omega)
    simp only [go_sem, h, e]
end Go.AM

/-! ## HT0 -/
namespace Go.AM
open Go Go.Proofs Go.RowKit

theorem ext_bang {l l' : List Int} (h : l.length = l'.length) (he : ∀ p, p < l.length → l[p]! = l'[p]!) : l = l' :=
  List.ext_getElem h fun p h1 h2 => by have := he p h1; rwa [getElem!_pos l p h1, getElem!_pos l' p h2] at this
theorem mod_set {α : Type} {f : α → α} : ∀ {L : List α} {i : Nat} {a : α}, L[i]? = some a → L.modify i f = L.set i (f a)
  | [], _, _, h => by simp at h
  | x :: L, 0, a, h => by
    have : x = a := by simpa using h
    subst this; rfl
  | x :: L, i + 1, a, h => by
    have := mod_set (f := f) (L := L) (i := i) (a := a) (by simpa using h)
    rw [List.modify_succ_cons, this]; rfl

/-- a rule that stays in the state 0 and moves nothing -/
def zR (r : RD) : RD := { r with src := 0, dst := 0, move := [] }
theorem nmL_take {a : ByteArray} {n k : Nat} (h : k ≤ n) : (nmL a n).take k = nmL a k := by
  unfold nmL
  rw [← List.map_take, List.take_range, Nat.min_eq_left h]
theorem dealtR_zero {ns np : Nat} {r : RD} (h : DealtR ns np r) : DealtR 1 np (zR r) := ⟨h.bare, ⟨Int.le_refl _, by show (0 : Int) < 1; omega⟩, ⟨Int.le_refl _, by show (0 : Int) < 1; omega⟩, h.need, h.give, .inl rfl⟩
theorem dealt_zero {ns np x : Nat} {rules : List RD} {v v' : List Int} (h : DealtM ns np rules x v) (hv : v'.length = np ∧ ∀ y ∈ v', 0 ≤ y ∧ y ≤ 3) : DealtM 1 np (rules.map zR) 0 v' := by
  refine ⟨by omega, h.hnp, by rw [List.length_map]; exact h.len, ?_, fun r hr => ?_, by omega, hv.1, hv.2⟩
  · rw [List.length_map, List.map_map]; exact h.names
  · obtain ⟨q, hq, rfl⟩ := List.mem_map.1 hr
    exact dealtR_zero (h.rules q hq)
section
variable {ns np : Nat} {r : RD}
theorem still_moves (h : RuleC ns np r) (hm : r.move = []) (v : List Int) : ∀ k : Nat, k ≤ np → ∀ j : Nat, (moveN r v k)[j]! = r.give[j]! + if j < k then v[j]! - r.need[j]! else 0
  | 0, _, j => by unfold moveN; rw [if_neg (by omega)]; omega
  | k + 1, hk, j => by
    have ih := still_moves h hm v k (by omega)
    have e : movedF r k = k := by unfold movedF; rw [if_pos (by rw [hm]; rfl)]
    have hl : k < (moveN r v k).length := by rw [moveN_len, h.give.1]; omega
    unfold moveN
    rw [e, if_pos (by omega), show ((k : Nat) : Int).toNat = k by omega, bang_set hl]
    by_cases hj : j = k
    · subst hj
      rw [if_pos rfl, ih j, if_neg (by omega), if_pos (by omega)]; omega
    · rw [if_neg hj, ih j]
      by_cases hj2 : j < k
      · rw [if_pos hj2, if_pos (by omega)]
      · rw [if_neg hj2, if_neg (by omega)]
end
/-- numbers behind a sequence of rules -/
def stepL (np : Nat) (rules : List RD) (c v : List Int) : List Int := (List.range np).map fun p => v[p]! + chg (tksF rules c p)
theorem stepL_len (np : Nat) (rules : List RD) (c v : List Int) : (stepL np rules c v).length = np := by simp [stepL]
theorem stepL_at {np p : Nat} {rules : List RD} {c v : List Int} (h : p < np) : (stepL np rules c v)[p]! = v[p]! + chg (tksF rules c p) := by
  rw [getElem!_pos _ p (by rw [stepL_len]; exact h)]; simp [stepL]
theorem stepL_nil {np : Nat} {rules : List RD} {v : List Int} (h : v.length = np) : stepL np rules [] v = v := by
  refine ext_bang (by rw [stepL_len, h]) fun p hp => ?_
  rw [stepL_len] at hp
  rw [stepL_at hp]
  show v[p]! + 0 = _
  omega
section
variable {ns np j : Nat} {rules : List RD} {c v : List Int}
theorem step_next (hr : RuleC ns np rules[c[j]!.toNat]!) (hm : rules[c[j]!.toNat]!.move = []) (hj : j < c.length) : moveV rules[c[j]!.toNat]! (stepL np rules (c.take j) v) = stepL np rules (c.take (j + 1)) v := by
  unfold moveV
  rw [stepL_len]
  refine ext_bang (by rw [moveN_len, stepL_len, hr.give.1]) fun p hp => ?_
  rw [moveN_len, hr.give.1] at hp
  rw [still_moves hr hm _ np (Nat.le_refl _) p, if_pos hp, stepL_at hp, stepL_at hp, chg_take hj]
  omega
theorem feas_next {p : Nat} (hj : j < c.length) : feas (tksF rules (c.take (j + 1)) p) v[p]! ↔ feas (tksF rules (c.take j) p) v[p]! ∧ rules[c[j]!.toNat]!.need[p]! ≤ v[p]! + chg (tksF rules (c.take j) p) := by
  rw [tks_take hj, feas_app]
  show _ ∧ (_ ∧ True) ↔ _
  rw [and_true]
theorem feas_part {p : Nat} (h : feas (tksF rules c p) v[p]!) (j : Nat) : feas (tksF rules (c.take j) p) v[p]! := by
  have e : tksF rules c p = tksF rules (c.take j) p ++ tksF rules (c.drop j) p := by
    unfold tksF
    rw [← List.map_append, List.take_append_drop]
  rw [e, feas_app] at h
  exact h.1
theorem en_feas (hn : rules[c[j]!.toNat]!.need.length = np) (hs : rules[c[j]!.toNat]!.src = 0) (hj : j < c.length) (hf : ∀ p, p < np → feas (tksF rules (c.take j) p) v[p]!) :
    enF rules[c[j]!.toNat]! 0 (stepL np rules (c.take j) v) = true ↔ ∀ p, p < np → feas (tksF rules (c.take (j + 1)) p) v[p]! := by
  unfold enF
  simp only [Bool.and_eq_true, beq_iff_eq, List.all_eq_true, List.mem_range, decide_eq_true_eq]
  constructor
  · rintro ⟨_, h⟩ p hp
    have := h p (by omega)
    rw [stepL_at hp] at this
    exact (feas_next hj).2 ⟨hf p hp, this⟩
  · intro h
    refine ⟨by rw [hs]; rfl, fun p hp => ?_⟩
    have hp' : p < np := by omega
    rw [stepL_at hp']
    exact ((feas_next hj).1 (h p hp')).2
theorem need_vec (h : ∀ r ∈ rules, SmallR np r) (hc : RulesOk rules c) (hl : c.length ≤ 64) (hnp : np ≤ 6) : vecB (needL np rules c) = true := by
  unfold vecB
  rw [Bool.and_eq_true, List.all_eq_true, decide_eq_true_eq]
  refine ⟨fun x hx => ?_, by rw [needL_len]; exact hnp⟩
  unfold needL at hx
  obtain ⟨p, hp, rfl⟩ := List.mem_map.1 hx
  have h5 := tks_bnd h hc (List.mem_range.1 hp)
  have h6 := needA_bnd h5 (by omega)
  have h7 := needA_nonneg (tksF rules c p)
  rw [tks_len] at h6
  unfold elB
  rw [decide_eq_true h7, decide_eq_true (show needA (tksF rules c p) ≤ 1048576 by omega)]; rfl
theorem small_vec (hv : ∀ y ∈ v, 0 ≤ y ∧ y ≤ 1048576) (hl : v.length ≤ 6) : vecB v = true := by
  unfold vecB
  rw [Bool.and_eq_true, List.all_eq_true, decide_eq_true_eq]
  refine ⟨fun x hx => ?_, hl⟩
  have := hv x hx
  unfold elB
  rw [decide_eq_true this.1, decide_eq_true this.2]; rfl
theorem leq_need (h1 : vecB (needL np rules c) = true) (h2 : vecB v = true) (hv : ∀ y ∈ v, 0 ≤ y) (hl : v.length = np) : leqV (needL np rules c) v = true ↔ ∀ p, p < np → feas (tksF rules c p) v[p]! := by
  unfold leqV
  rw [h1, h2, needL_len, hl, decide_eq_true rfl]
  simp only [Bool.true_and, List.all_eq_true, List.mem_range, decide_eq_true_eq]
  constructor
  · intro h p hp
    have := h p hp
    rw [needL_at hp] at this
    exact (needA_iff (hv _ (mem_bangI (by omega)))).1 this
  · intro h p hp
    rw [needL_at hp]
    exact (needA_iff (hv _ (mem_bangI (by omega)))).2 (h p hp)
/-- numbers stay small -/
theorem stepL_low (h : ∀ r ∈ rules, SmallR np r) (hc : RulesOk rules c) (hl : c.length ≤ 64) (hv : ∀ y ∈ v, 0 ≤ y ∧ y ≤ 6) (hvl : v.length = np) {p : Nat} (hp : p < np) (hf : feas (tksF rules c p) v[p]!) :
    0 ≤ (stepL np rules c v)[p]! ∧ (stepL np rules c v)[p]! ≤ 2000 := by
  rw [stepL_at hp]
  have h5 := tks_bnd h hc hp
  have h7 := chg_bnd h5 (by omega)
  have h8 := tks_len rules c p
  have h1 := hv _ (mem_bangI (show p < v.length by omega))
  rw [h8] at h7
  have hend : ∀ (ts : List Tk) (v : Int), (∀ t ∈ ts, 0 ≤ t.2) → 0 ≤ v → feas ts v → 0 ≤ v + chg ts := by
    intro ts
    induction ts with
    | nil => intro v _ h _; simp [chg]; exact h
    | cons t ts ih =>
      intro v hg hv h
      have := ih (v - t.1 + t.2) (fun x hx => hg x (by simp [hx])) (by have := hg t (by simp); have := h.1; omega) h.2
      simp only [chg]; omega
  have h9 := hend _ _ (fun t ht => (h5 t ht).2.2.1) h1.1 hf
  omega
end
end Go.AM

/-! ## HS -/
namespace Go.AM
open Go Go.Proofs Go.RowKit

def natI (i : Nat) : Int := i
def zeroI (_ : Nat) : Int := 0
theorem drop_of {np p : Nat} (_hp : p < np) : (mixL np np natI zeroI).set p (-1) = dropL np p := by
  rw [mixL_full]
  refine List.ext_getElem (by simp [dropL]) fun j h1 h2 => ?_
  rw [List.getElem_set]
  simp only [dropL, List.getElem_map, List.getElem_range]
  by_cases e : p = j
  · rw [if_pos e, if_pos e.symm]
  · rw [if_neg e, if_neg (fun h => e h.symm)]; rfl
set_option maxRecDepth 100000 in
set_option maxHeartbeats 4000000 in
theorem con_resetsLaw (l : List Int) (at_ : Int) (hat : 0 ≤ at_ ∧ at_ < 256) : Con Tryz.prog 12 [vs 0 l, vu at_] [] fun r _ => r = vb true := by
  refine Con.intro Tryz.func12 rfl Tryz.ntmps12 Tryz.results12 (by kernel_rfl) (by simp) 0 (by simp) ?_
  simp only [go_sem]
  refine CallU.free con_sane17 (by simp only [go_sem]) (by simp only [go_sem]) ?_
  rintro r bx rfl
  simp only [go_sem]
  refine CallU.free (con_dFew l) (by simp only [go_sem]) (by simp only [go_sem]) ?_
  rintro r bx rfl
  by_cases hf : (l.length : Int) ≤ 400
  case neg =>
    simp only [go_sem, hf]
    refine CallU.free con_sane17 (by simp only [go_sem]) (by simp only [go_sem]) ?_
    rintro r bx rfl
    simp only [go_sem]
  simp only [go_sem, hf]
  refine CallU.news (bx0 := []) (con_dNew l) (by simp only [go_sem]) (by simp only [go_sem]) (by simp only [go_sem]) (by simp only [go_sem]) (by simp only [go_sem]) ?_
  rintro r b ⟨rfl, rfl⟩
  simp only [go_sem]
  refine CallU.boxes (i := 0) (is := []) (bx0 := [deckA l (0, 11400714819323198485)]) (con_dModel1 l (0, 11400714819323198485) (deck_dk hf)) (by simp only [go_sem]) (by simp only [go_sem]) (by simp only [go_sem]) (by simp only [go_sem]) (by simp only [go_sem]) ?_
  rintro r b ⟨ns, np, rules, x0, v0, s1, hM, hd1, rfl, rfl⟩
  have hns := hM.hns; have hnp := hM.hnp
  have l1 : (nmL qB ns).length = ns := nmL_len _ _
  have l2 : (nmL pB np).length = np := nmL_len _ _
  have m1 : (dealtM ns np rules (cfgC x0 v0)).states = nmL qB ns := rfl
  have m2 : (dealtM ns np rules (cfgC x0 v0)).places = nmL pB np := rfl
  have m3 : (dealtM ns np rules (cfgC x0 v0)).rules = rules := rfl
  have hlr := hM.len
  obtain ⟨mm, hmm⟩ : ∃ mm, mm = dealtM ns np rules (cfgC x0 v0) := ⟨_, rfl⟩
  rw [← hmm] at m1 m2 m3 ⊢
  have lp : mm.places.length = np := by rw [m2, l2]
  have ls : mm.states.length = ns := by rw [m1, l1]
  by_cases hr0 : rules.length = 0
  · simp only [go_sem, m3, hr0]
  have hrb : ((rules.length : Int) == 0) = false := beq_eq_false_iff_ne.2 (by omega)
  simp only [go_sem, m3, hrb]
  refine ⟨by simp only [roomFor]; omega, ?_⟩
  refine CallU.boxes (i := 0) (is := []) (bx0 := [deckA l s1]) (con_dNext l s1 rules.length hd1) (by simp only [go_sem]) (by simp only [go_sem]) (by simp only [go_sem]) (by simp only [go_sem]) (by simp only [go_sem]) ?_
  rintro r b ⟨rfl, rfl⟩
  have hn := nextV_lt (l := l) (s := s1) (n := rules.length) (by omega)
  have hd2 : Dk l (nextS l s1 rules.length) := nextS_dk hd1
  obtain ⟨k, ek, hk⟩ : ∃ k : Nat, nextV l s1 rules.length = k ∧ k < rules.length := ⟨(nextV l s1 rules.length).toNat, by omega, by omega⟩
  rw [ek]
  generalize nextS l s1 rules.length = s2 at hd2
  have hwa : IntKind.i64.wrap at_ = at_ := wrap_in (by omega) (by omega)
  have hnp0 : ((np : Int) == 0) = false := beq_eq_false_iff_ne.2 (by omega)
  obtain ⟨p, ep, hp⟩ : ∃ p : Nat, Int.tmod at_ np = p ∧ p < np := by
    have h1 : Int.tmod at_ np = at_ % np := Int.tmod_eq_emod_of_nonneg hat.1
    have h2 := Int.emod_nonneg at_ (show (np : Int) ≠ 0 by omega)
    have h3 := Int.emod_lt_of_pos at_ (show (0 : Int) < np by omega)
    exact ⟨(at_ % np).toNat, by omega, by omega⟩
  simp only [go_sem, hwa, lp, ep]
  refine ⟨by omega, Nat.le_refl _, by omega, by omega, ?_⟩
  have hrep : List.replicate np (AV.sc (.int .i64 0)) = (mixL np 0 natI zeroI).map vi := (List.eq_replicate_iff.2 ⟨by simp [mixL_len], fun y hy => by
    obtain ⟨x, hx, rfl⟩ := List.mem_map.1 hy
    rw [mixL_zero] at hx
    obtain ⟨q, _, rfl⟩ := List.mem_map.1 hx
    rfl⟩).symm
  rw [hrep]
  refine LoopK.intro (fun i : Nat => ⟨171, [(5, .pb 0 0), (6, .pb 1 0), (7, vi k), (8, vi p), (9, vs 3264 (mixL np i natI zeroI)), (52, vi np), (53, vi i)], [deckA l s2, [vi mm.kind, vss mm.states, vss mm.places, vss mm.letters, vs 0 mm.ranks, vi mm.levels, vi mm.age, .sl 2240 14 (rules.map vRule), vi mm.start.n, .sl 0 2 (mm.start.kids.map vV)]]⟩)
    (fun i => np - i) (fun i => i ≤ np) 0 (by omega) ?_ ?_
  · simp only [go_sem, vss, mixL_len]
  rintro i hi
  have hml := mixL_len np i natI zeroI
  by_cases hlt : i < np
  · have hw : IntKind.i64.wrap ((i : Int) + 1) = (i : Int) + 1 := wrap_in (by omega) (by omega)
    have hil : i < (mixL np i natI zeroI).length := by omega
    have hmod := modv (x := natI i) hil
    rw [mixL_set] at hmod
    have en : natI i = (i : Int) := rfl
    rw [en] at hmod
    simp only [go_sem, hlt, hil, hmod, hw]
    refine roundK.intro (i + 1) (by omega) (by omega) ?_
    simp only [go_sem]
  have ei : i = np := by omega
  have hmod0 := modv (l := mixL np np natI zeroI) (x := -1) (k := p) (by rw [mixL_len]; exact hp)
  rw [drop_of hp] at hmod0
  rw [ei]
  have hpl : p < (mixL np np natI zeroI).length := by rw [mixL_len]; exact hp
  have hlt' : ¬ np < np := by omega
  obtain ⟨r, er⟩ : ∃ r, r = rules[k]! := ⟨_, rfl⟩
  have hdr : DealtR ns np r := by rw [er]; exact hM.rules _ (mem_bangI hk)
  have hup : (rules.map vRule).modify k (updElem 5 [vs 0 (dropL np p)]) = (rules.set k { r with move := dropL np p }).map vRule := by
    rw [mod_set (getRule hk), List.map_set, er]; rfl
  have hup' : (rules.map vRule).modify k (updElem 5 [.sl 0 1 ((dropL np p).map vi)]) = (rules.set k { r with move := dropL np p }).map vRule := hup
  have hrl : k < (rules.set k { r with move := dropL np p }).length := by rw [List.length_set]; exact hk
  have hrk : (rules.set k { r with move := dropL np p })[k]! = { r with move := dropL np p } := by rw [getElem!_pos _ k hrl, List.getElem_set_self]
  have hgr := getRule hrl
  rw [hrk] at hgr
  have hD : DealtR ns np { r with move := dropL np p } := ⟨hdr.bare, hdr.src, hdr.dst, hdr.need, hdr.give, .inr ⟨drop_len np p, fun y hy => by
    obtain ⟨q, hq, rfl⟩ := List.mem_map.1 hy
    have := List.mem_range.1 hq
    split <;> omega⟩⟩
  have hM2 : DealtM ns np (rules.set k { r with move := dropL np p }) x0 v0 := by
    refine ⟨hns, hnp, by rw [List.length_set]; exact hlr, ?_, fun q hq => ?_, hM.start⟩
    · rw [List.length_set, ← hM.names, List.map_set]
      have e : RD.name { r with move := dropL np p } = (rules.map RD.name)[k]! := by rw [getElem!_pos _ k (by rw [List.length_map]; exact hk), List.getElem_map, er, getElem!_pos rules k hk]
      rw [e]
      refine List.ext_getElem? fun j => ?_
      rw [List.getElem?_set]
      split
      · rename_i hjk
        subst hjk
        rw [if_pos (by rw [List.length_map]; exact hk), List.getElem?_eq_getElem (by rw [List.length_map]; exact hk), getElem!_pos _ k (by rw [List.length_map]; exact hk)]
      · rfl
    · rcases List.mem_or_eq_of_mem_set hq with hq | rfl
      · exact hM.rules q hq
      · exact hD
  obtain ⟨mr, hmr⟩ : ∃ mr, mr = rules.set k { r with move := dropL np p } := ⟨_, rfl⟩
  rw [← hmr] at hup' hrl hgr hM2 hrk
  have hG := hM2.good
  have m1' : (dealtM ns np mr (cfgC x0 v0)).states = mm.states := by rw [hmm]; rfl
  obtain ⟨nm, hnm⟩ : ∃ nm, nm = dealtM ns np mr (cfgC x0 v0) := ⟨_, rfl⟩
  have n0 : nm = { mm with rules := mr } := by rw [hnm, hmm]; rfl
  rw [← hnm] at hG
  have nr : nm.rules = mr := by rw [hnm]; rfl
  obtain ⟨x, v, e, g1, g2, g3⟩ := cfV_cons (l := l) (s := s2) hns.1 np
  have hcf := con_dConfig l s2 mm (by rw [hmm]; exact dealt_own hns hnp) hd2 x v (by rw [ls, lp]; exact e) (by rw [ls, lp]; exact cfg_conf g1 g2 fun y hy => by have := g3 y hy; omega)
  rw [ls, lp] at hcf
  have hd3 : Dk l (cfS l s2 ns (np + 1)) := cfS_dk hd2 _
  generalize cfS l s2 ns (np + 1) = s3 at hcf hd3
  simp only [go_sem, hlt', hpl, hmod0, vss]
  refine ⟨hk, ?_⟩
  rw [hup']
  refine CallU.hide [] [.pb 0 0, hidA mm] (i := 0) (is := []) (bx0 := [deckA l s2]) hcf (by simp only [go_sem]) ?_ (by simp only [go_sem]) (by simp only [go_sem]) (by simp only [go_sem]) (by simp only [go_sem]) (by simp only [go_sem]) ?_
  · simp only [go_sem]
    exact leV_ag ⟨leV_refl _, leV_refl _, leV_refl _, leV_refl _, leV_refl _, leV_refl _, leV_refl _, leV_any _, leV_any _, leV_any _, trivial⟩
  rintro r' b ⟨rfl, rfl⟩
  have q2 : (0 : Int) < (v.length : Int) + 1 := by omega
  simp only [go_sem]
  have hm0 : ∀ (a y : AV) (T : List AV), (AV.ag [a, .sl 0 2 []] :: T).modify 0 (updElem 0 [y]) = AV.ag [y, .sl 0 2 []] :: T := fun _ _ _ => rfl
  obtain ⟨sr, hsr, hsl⟩ : ∃ sr : Nat, r.src = (sr : Int) ∧ sr < ns := ⟨r.src.toNat, by have := hdr.src; omega, by have := hdr.src; omega⟩
  rw [hsr] at hgr
  refine DrawK.walk 10 mixed (by kernel_rfl) ?_
  simp only [go_sem, hrl, hgr, q2, hm0]
  have hC : GoodC nm sr v := ⟨by rw [hnm]; show sr < (nmL qB ns).length; omega, by rw [hnm]; show v.length = (nmL pB np).length; omega, fun y hy => by have := g3 y hy; omega⟩
  have hap := con_capplyU nm k sr v hG (by rw [nr]; exact hrl) hC
  rw [nr, hrk] at hap
  refine CallU.freeze hap (by simp only [go_sem]) (by simp only [go_sem, vM, cM, vss, n0]) ?_
  rintro r' bx rfl
  obtain ⟨q, hq⟩ : ∃ q : RD, q = { r with move := dropL np p } := ⟨_, rfl⟩
  have q1 : q.move = dropL np p := by rw [hq]
  have q3 : q.need = r.need := by rw [hq]
  have q4 : q.give = r.give := by rw [hq]
  have q5 : q.dst = r.dst := by rw [hq]
  have hqc : RuleC ns np q := by rw [hq]; exact rule_c (dealt_ruleB hD)
  rw [← hq]
  have hbl := fun j => drop_moves (v := v) hqc q1 hnp.1 np (Nat.le_refl _) j
  by_cases he : enF q sr v = true
  case neg =>
    have eE : appE q sr v = 18 := by unfold appE; rw [if_neg he]
    simp only [go_sem, eE]
  have hle := (en_le he).2
  have hval : ∀ j, j < np → (moveV q v)[j]! = r.give[j]! + if j ≠ p then v[j]! - r.need[j]! else 0 := fun j hj => by
    have := hbl j
    unfold moveV
    rw [g2, this, q3, q4]
    by_cases hjp : j = p
    · rw [if_neg (by omega), if_neg (by omega)]
    · rw [if_pos ⟨hj, hjp⟩, if_pos hjp]
  have hol : (moveV q v).length = np := by unfold moveV; rw [moveN_len, q4, hdr.give.1]
  have hsm : ∀ j, j < np → 0 ≤ r.give[j]! ∧ r.give[j]! ≤ 2 ∧ 0 ≤ r.need[j]! ∧ r.need[j]! ≤ 2 ∧ 0 ≤ v[j]! ∧ v[j]! ≤ 3 ∧ r.need[j]! ≤ v[j]! := fun j hj => by
    have a1 := hdr.give.2 _ (mem_bangI (show j < r.give.length by rw [hdr.give.1]; exact hj))
    have a2 := hdr.need.2 _ (mem_bangI (show j < r.need.length by rw [hdr.need.1]; exact hj))
    have a3 := g3 _ (mem_bangI (show j < v.length by omega))
    have a4 := hle j (by rw [q3, hdr.need.1]; exact hj)
    rw [q3] at a4
    omega
  have ho : okV (moveV q v) = true := okV_ok fun j hj => by
    have h1 := hval j (by omega)
    have h2 := hsm j (by omega)
    rw [h1]
    split <;> omega
  have eE : appE q sr v = 0 := by unfold appE; rw [if_pos he, if_pos ho]
  have eL : appL q sr v = (r.dst.toNat : Int) :: moveV q v := by unfold appL; rw [if_pos he, if_pos ho, q5]
  generalize moveV q v = out at hval hol eL
  have edst : ((r.dst.toNat : Nat) : Int) = r.dst := by have := hdr.dst; omega
  rw [edst] at eL
  simp only [go_sem, eE, eL, List.map_cons]
  refine LoopK.intro (fun i : Nat => ⟨171, [(6, .pb 1 0), (7, vi k), (8, vi p), (11, .pb 2 0), (12, .pb 3 0), (96, vi np), (97, vi i)], [List.replicate 3 .any, [vi mm.kind, vss mm.states, vss mm.places, vss mm.letters, vs 0 mm.ranks, vi mm.levels, vi mm.age, .sl 0 14 (mr.map vRule), vi mm.start.n, .sl 0 2 (mm.start.kids.map vV)],
      [vi 0, .sl 0 2 (kidZ sr :: v.map kidZ)], [vi 0, .sl 0 2 (kidZ r.dst :: out.map kidZ)]]⟩)
    (fun i => np - i) (fun i => i ≤ np) 0 (by omega) ?_ ?_
  · simp only [go_sem, vss, lp]
    exact leC_any _ 3 rfl
  rintro i hi
  by_cases hlt : i < np
  · have hw : IntKind.i64.wrap ((i : Int) + 1) = (i : Int) + 1 := wrap_in (by omega) (by omega)
    have hw4 : IntKind.i64.wrap (1 + (i : Int)) = (i : Int) + 1 := by rw [wrap_in (by omega) (by omega)]; omega
    have ht : ((i : Int) + 1).toNat = i + 1 := by omega
    have hnn : (0 : Int) ≤ (i : Int) + 1 := by omega
    have q6 : (i : Int) + 1 < (v.length : Int) + 1 := by omega
    have q7 : (i : Int) + 1 < (out.length : Int) + 1 := by omega
    have hvl : i < v.length := by omega
    have hol' : i < out.length := by omega
    have hgv : (AV.ag [.sc (.int .i64 sr), .sl 0 2 []] :: v.map kidZ)[i + 1]? = some (.ag [.sc (.int .i64 v[i]!), .sl 0 2 []]) := getZ hvl
    have hgo : (AV.ag [.sc (.int .i64 r.dst), .sl 0 2 []] :: out.map kidZ)[i + 1]? = some (.ag [.sc (.int .i64 out[i]!), .sl 0 2 []]) := getZ hol'
    have hnl : i < r.need.length := by rw [hdr.need.1]; exact hlt
    have hgl : i < r.give.length := by rw [hdr.give.1]; exact hlt
    have hgn := getv hnl
    have hgg := getv hgl
    have h1 := hval i hlt
    have h2 := hsm i hlt
    have w1 : IntKind.i64.wrap (v[i]! - r.need[i]!) = v[i]! - r.need[i]! := wrap_in (by omega) (by omega)
    have w2 : IntKind.i64.wrap (v[i]! - r.need[i]! + r.give[i]!) = v[i]! - r.need[i]! + r.give[i]! := wrap_in (by omega) (by omega)
    simp only [go_sem, hlt, vss]
    refine DrawK.walk 28 mixed (by kernel_rfl) ?_
    simp only [go_sem, hrl, hgr, hw4, ht, hnn, q6, hgv, hnl, hgl, hgn, hgg, w1]
    by_cases hip : i = p
    · have hb : decide (i = p) = true := decide_eq_true hip
      have hb2 : (out[i]! != r.give[i]!) = false := by rw [h1, if_neg (by omega)]; simp
      simp only [go_sem, hb, hrl, hgr, hgl, hgg, hw4, ht, hnn, q7, hgo, hb2, hw]
      refine roundK.intro (i + 1) (show i + 1 ≤ np by omega) (show np - (i + 1) < np - i by omega) ?_
      simp only [go_sem]
      exact leC_self _
    · have hb : decide (i = p) = false := decide_eq_false hip
      have hb2 : (out[i]! != v[i]! - r.need[i]! + r.give[i]!) = false := by rw [h1, if_pos hip, show r.give[i]! + (v[i]! - r.need[i]!) = v[i]! - r.need[i]! + r.give[i]! by omega]; simp
      simp only [go_sem, hb, hw4, ht, hnn, q7, hgo, w1, w2, hb2, hw]
      refine roundK.intro (i + 1) (show i + 1 ≤ np by omega) (show np - (i + 1) < np - i by omega) ?_
      simp only [go_sem]
      exact leC_self _
  · have hw5 : IntKind.i64.wrap (1 + (np : Int)) = (np : Int) + 1 := by rw [wrap_in (by omega) (by omega)]; omega
    have hb : ((out.length : Int) + 1 == (np : Int) + 1) = true := by rw [hol]; simp
    have q8 : (0 : Int) < (out.length : Int) + 1 := by omega
    have hb3 : (r.dst == r.dst) = true := beq_self_eq_true _
    simp only [go_sem, hlt, vss]
    refine DrawK.walk 23 mixed (by kernel_rfl) ?_
    simp only [go_sem, lp, hw5, hb, q8, hrl, hgr, hb3]
end Go.AM

/-! ## Closed1N -/
namespace Go.Proofs.YtpmodjodfimejaaGreat
open Go.ChangeShapes Go.WideShapes Go.ChangeAt Go.RowKit Go.AM

theorem and_mk {a b : Bool} (h1 : a = true) (h2 : b = true) : (a && b) = true := by rw [h1, h2]; rfl
theorem cLaid : laidOutB Tryz.prog = true := by kernel_rfl
theorem cRowed : mapsRowed Tryz.prog = true := by kernel_rfl
theorem cHeard : Tryz.prog.stopsHeard = true := by kernel_rfl
theorem cEnter : Tryz.prog.mayEnter = true := by kernel_rfl
theorem cLifts : (Rows.counterResetsRow.lifted == Tryz.prog.liftsFinal) = true := by kernel_rfl
theorem counterResetsC0 : (Rows.counterResetsRow.wf (OpenSpec.ofChange Rows.counterResetsSpec)) = true := by kernel_rfl
theorem counterResetsC3 : (Tryz.f12.params.all (Tryz.prog.readableRec ·)) = true := by kernel_rfl
theorem counterResetsC4 : (namedTie Tryz.prog Rows.counterResetsRow.named Rows.counterResetsSpec.vars) = true := by kernel_rfl
theorem counterResetsC5 : ((Rows.counterResetsRow.stops == [])) = true := by kernel_rfl
theorem counterResetsC6 : ((Tryz.prog.stops == [])) = true := by kernel_rfl
theorem counterResetsC7 : ((Rows.counterResetsRow.knobs == [])) = true := by kernel_rfl
theorem counterResetsC8 : ((Tryz.prog.stopKnobs == [])) = true := by kernel_rfl
theorem counterResetsC9 : ((Rows.counterResetsRow.inPlace == Tryz.prog.inPlace 12)) = true := by kernel_rfl
theorem counterResetsC10 : ((Rows.counterResetsRow.unfollowed == Tryz.prog.unfollowed 12)) = true := by kernel_rfl
theorem counterResetsC11 : ((Rows.counterResetsRow.recurses == Tryz.prog.recurses 12)) = true := by kernel_rfl
theorem counterResetsC12 : ((Rows.counterResetsRow.named == Tryz.prog.varsNamed 12)) = true := by kernel_rfl
theorem counterResetsC13 : ((Rows.counterResetsRow.maps == (Tryz.f12.params.toList ++ Rows.counterResetsSpec.plain.varTypes Tryz.prog).any (Tryz.prog.mapsRec ·))) = true := by kernel_rfl
theorem counterResetsC14 : ((Rows.counterResetsRow.ifaces == (Tryz.f12.params.toList ++ Rows.counterResetsSpec.plain.varTypes Tryz.prog).any (Tryz.prog.ifacesRec ·))) = true := by kernel_rfl
theorem counterResetsC15 : ((Rows.counterResetsRow.mapsOut == Tryz.prog.mapsAmong Tryz.f12.resultTypes.toList)) = true := by kernel_rfl
theorem counterResetsC16 : ((Rows.counterResetsRow.loops == (Tryz.f12.params.toList ++ Rows.counterResetsSpec.plain.varTypes Tryz.prog).any (Tryz.prog.loopsFrom ·))) = true := by kernel_rfl
theorem counterResetsC17 : ((Rows.counterResetsRow.wideKeys == (Tryz.f12.params.toList ++ Rows.counterResetsSpec.plain.varTypes Tryz.prog ++ Tryz.f12.resultTypes.toList).any (Tryz.prog.wideKeysFrom ·))) = true := by kernel_rfl
theorem counterResetsC18 : (Rows.counterResetsSpec.vars.all (Tryz.prog.varReadable ·)) = true := by kernel_rfl
theorem counterResetsC19 : (Tryz.f12.resultTypes.all (fun t => Tryz.prog.readableRec t && decide (t < Tryz.prog.types.size))) = true := by kernel_rfl
theorem counterResetsC20 : ((Rows.counterResetsRow.ifacesOut == Tryz.f12.resultTypes.toList.any (Tryz.prog.ifacesRec ·))) = true := by kernel_rfl
theorem counterResetsC21 : ((Rows.counterResetsRow.loopsOut == Tryz.f12.resultTypes.toList.any (Tryz.prog.loopsFrom ·))) = true := by kernel_rfl
theorem counterResetsC22 : ((Rows.counterResetsRow.plainKeys == Tryz.prog.plainKeys)) = true := by kernel_rfl
theorem counterResetsC23 : (Rows.counterResetsRow.shortTexts.isNone) = true := by kernel_rfl
theorem counterResetsC27 : ((Tryz.prog.make == some Rows.counterResetsRow.make)) = true := by kernel_rfl
theorem counterResetsC28 : ((Rows.counterResetsRow.kinds == (if Rows.counterResetsRow.domain.isEmpty then [] else Tryz.f12.params.toList.map fun t => match Tryz.prog.underlying t with | some (.int k) => some k | _ => none))) = true := by kernel_rfl
theorem counterResetsC29 : ((Rows.counterResetsRow.pinned == Rows.counterResetsRow.pinnedBy)) = true := by kernel_rfl
theorem counterResetsC30 : ((Rows.counterResetsRow.veiled == (Tryz.f12.params.toList ++ Rows.counterResetsSpec.plain.varTypes Tryz.prog ++ Tryz.f12.resultTypes.toList).any (Tryz.prog.veiledRec ·))) = true := by kernel_rfl
theorem counterResetsC31 : (Rows.counterResetsRow.veiledFits Tryz.prog Tryz.f12.params.toList (Tryz.f12.params.toList ++ Rows.counterResetsSpec.plain.varTypes Tryz.prog ++ Tryz.f12.resultTypes.toList)) = true := by kernel_rfl
end Go.Proofs.YtpmodjodfimejaaGreat

/-! ## Closed1Nz -/
namespace Go.Proofs.YtpmodjodfimejaaGreat
open Go.ChangeShapes Go.WideShapes Go.ChangeAt Go.RowKit Go.AM

set_option maxRecDepth 100000 in
theorem counterResetsClosed : joinedFacts Tryz.prog 12 Tryz.f12 Rows.counterResetsSpec Rows.counterResetsRow = true := by
  unfold joinedFacts
  exact and_mk (and_mk (and_mk (and_mk (and_mk (and_mk (and_mk (and_mk (and_mk (and_mk (and_mk (and_mk (and_mk (and_mk (and_mk (and_mk (and_mk (and_mk (and_mk (and_mk (and_mk (and_mk (and_mk (and_mk (and_mk (and_mk (and_mk (and_mk (and_mk (and_mk (and_mk counterResetsC0 cLaid) cRowed) counterResetsC3) counterResetsC4) counterResetsC5) counterResetsC6) counterResetsC7) counterResetsC8) counterResetsC9) counterResetsC10) counterResetsC11) counterResetsC12) counterResetsC13) counterResetsC14) counterResetsC15) counterResetsC16) counterResetsC17) counterResetsC18) counterResetsC19) counterResetsC20) counterResetsC21) counterResetsC22) counterResetsC23) cHeard) cEnter) cLifts) counterResetsC27) counterResetsC28) counterResetsC29) counterResetsC30) counterResetsC31
theorem counterResetsNamed : Tryz.prog.funcNamed Rows.counterResetsRow.func = some 12 := by kernel_rfl
end Go.Proofs.YtpmodjodfimejaaGreat
