/-
  ModelNames: the walk of the law.
  Closed facts of rows, one by one.
  Closed facts of rows, together.
-/
import Derived.Test.YtpmodjodfimejaaGreatg29
import Derived.Test.YtpmodjodfimejaaGreatg16
/-! ## KU -/
namespace Go.AM
open Go Go.Proofs Go.RowKit
set_option maxRecDepth 100000
set_option maxHeartbeats 8000000
theorem con_dPick (l : List Int) (s : DS) (xs : List ByteArray) (h : Dk l s) (h0 : 0 < xs.length) (h1 : xs.length ≤ 1000000) : Con Tryz.prog 41 [.pb 0 0, vss xs] [deckA l s]
  fun r b => r = vStr xs[(nextV l s xs.length).toNat]! ∧ b = [deckA l (nextS l s xs.length)] := by
 refine Con.intro Tryz.func41 rfl Tryz.ntmps41 Tryz.results41 (by kernel_rfl) (by simp) 1 (by simp) ?_
 have hn := nextV_lt (l := l) (s := s) (n := xs.length) (by omega)
 simp only [go_sem, vss]
 refine CallU.boxes (i := 0) (is := []) (bx0 := [deckA l s]) (con_dNext l s xs.length h) (by simp only [go_sem]) (by simp only [go_sem]) (by simp only [go_sem]) (by simp only [go_sem]) (by simp only [go_sem]) ?_
 rintro r b ⟨rfl, rfl⟩
 obtain ⟨j, ej⟩ : ∃ j : Nat, nextV l s xs.length = j := ⟨(nextV l s xs.length).toNat, by omega⟩
 have hj : j < xs.length := by omega
 have hg : (xs.map vStr)[j]? = some (vStr xs[j]!) := by rw [List.getElem?_map, List.getElem?_eq_getElem hj, getElem!_pos xs j hj]; rfl
 simp only [go_sem] at hg
 simp only [go_sem, ej, hj, hg, Int.toNat_natCast]
theorem names_key {a : List ByteArray} {i : Nat} (h : i < a.length) (hb : (wordB a[i]! && !keywordB a[i]!) = false) : namesB a = false :=
 names_bad h (by unfold okN; rw [hb]; rfl)
theorem names_twice {a : List ByteArray} {i j : Nat} (hi : i < j) (hj : j < a.length) (e : a[j]! = a[i]!) : namesB a = false := by
 refine names_bad hj ?_
 have hc : ((a.take j).map fun s => s.data.toList).contains a[j]!.data.toList = true := by
  rw [List.contains_iff_mem, e]
  refine List.mem_map.2 ⟨a[i]!, ?_, rfl⟩
  rw [getElem!_pos a i (by omega)]
  exact List.mem_take_iff_getElem.2 ⟨i, by omega, rfl⟩
 unfold okN
 rw [hc]; simp
def badL : List ByteArray := [⟨#[114, 117, 108, 101]⟩, ⟨#[115, 116, 97, 114, 116]⟩, ⟨#[109, 111, 118, 101]⟩, ⟨#[65]⟩, ⟨#[]⟩, ⟨#[49, 97]⟩]
theorem badL_len : badL.length = 6 := rfl
theorem bad_names : ∀ x ∈ badL, (wordB x && !keywordB x) = false ∧ x.size ≤ 5 := by
 have h : (badL.all fun x => !(wordB x && !keywordB x) && decide (x.size ≤ 5)) = true := by kernel_rfl
 intro x hx
 have := List.all_eq_true.1 h x hx
 rw [Bool.and_eq_true, decide_eq_true_eq, Bool.not_eq_true'] at this
 exact this
theorem bad_at {j : Nat} (h : j < 6) : (wordB badL[j]! && !keywordB badL[j]!) = false ∧ badL[j]!.size ≤ 5 := bad_names _ (mem_bangI (by rw [badL_len]; exact h))
theorem modSt {l : List ByteArray} {k : Nat} {x : ByteArray} (h : k < l.length) : (l.map vStr).modify k (updElem 0 [.sc (.string x)]) = (l.set k x).map vStr := by
 have h2 : (l.map vStr)[k]? = some (vStr l[k]!) := by rw [List.getElem?_map, List.getElem?_eq_getElem h, getElem!_pos l k h]; rfl
 rw [mod_set h2, List.map_set]; rfl
theorem modRu {l : List RD} {k : Nat} {x : ByteArray} (h : k < l.length) : (l.map vRule).modify k (updElem 0 [.sc (.string x)]) = (l.set k { l[k]! with name := x }).map vRule := by
 have h2 : (l.map vRule)[k]? = some (vRule l[k]!) := by rw [List.getElem?_map, List.getElem?_eq_getElem h, getElem!_pos l k h]; rfl
 rw [mod_set h2, List.map_set]; rfl
def setS (m : MD) (j : Nat) (b : ByteArray) : MD := { m with states := m.states.set j b }
def setR (m : MD) (j : Nat) (b : ByteArray) : MD := { m with rules := m.rules.set j { m.rules[j]! with name := b } }
theorem mem_set {α : Type} {l : List α} {j : Nat} {b x : α} (h : x ∈ l.set j b) : x ∈ l ∨ x = b := by
 rcases List.mem_or_eq_of_mem_set h with h | h
 ·exact .inl h
 ·exact .inr h
theorem setS_len {m : MD} (h : LenM m) {j : Nat} {b : ByteArray} (hb : b.size ≤ 1000) : LenM (setS m j b) := by
 refine ⟨?_, ?_, h.ranks, h.rules, h.start⟩
 ·have := h.names
  unfold setS namesOf
  unfold namesOf at this
  simp only [List.length_append, List.length_map, List.length_set] at this ⊢
  omega
 ·intro s hs
  have hh := h.sizes s
  unfold setS namesOf at hs
  unfold namesOf at hh
  simp only [List.mem_append] at hs hh
  rcases hs with (((hs | hs) | hs) | hs)
  ·rcases mem_set hs with hs | rfl
   ·exact hh (.inl (.inl (.inl hs)))
   ·omega
  ·exact hh (.inl (.inl (.inr hs)))
  ·exact hh (.inl (.inr hs))
  ·exact hh (.inr hs)
theorem setR_len {m : MD} (h : LenM m) {j : Nat} {b : ByteArray} (hj : j < m.rules.length) (hb : b.size ≤ 9223372036854775806) : LenM (setR m j b) := by
 refine ⟨?_, ?_, h.ranks, fun r hr => ?_, h.start⟩
 ·have := h.names
  unfold setR namesOf
  unfold namesOf at this
  simp only [List.length_append, List.length_map, List.length_set] at this ⊢
  omega
 ·intro s hs
  have hh := h.sizes s
  unfold setR namesOf at hs
  unfold namesOf at hh
  simp only [List.mem_append, List.map_set] at hs hh
  rcases hs with (((hs | hs) | hs) | hs)
  ·exact hh (.inl (.inl (.inl hs)))
  ·exact hh (.inl (.inl (.inr hs)))
  ·exact hh (.inl (.inr hs))
  ·rcases mem_set hs with hs | rfl
   ·exact hh (.inr hs)
   ·exact hb
 ·rcases mem_set hr with hr | rfl
  ·exact h.rules r hr
  ·have := h.rules _ (mem_bangI hj)
   exact ⟨⟨this.len.need, this.len.give, this.len.move, this.len.path, this.len.next, this.len.takes, this.len.makes⟩, this.path, this.next⟩
theorem check_names {m : MD} {p : List ByteArray} {q : List RD} (h : checkF m = 0) (hp : p.length = m.states.length) (hq : q.length = m.rules.length) (hn : namesB (namesOf { m with states := p, rules := q }) = false) : checkF { m with states := p, rules := q } = 13 := by
 obtain ⟨h1, h2, h3, _⟩ := checkF_zero h
 have e2 : sizedB { m with states := p, rules := q } = sizedB m := by unfold sizedB; rw [hp, hq]
 have e3 : rankedB { m with states := p, rules := q } = rankedB m := rfl
 unfold checkF
 rw [e2, e3, hn, h2, h3, show betweenB m.kind 1 6 = true from h1]; rfl
theorem setS_check {m : MD} (h : checkF m = 0) {j : Nat} {b : ByteArray} (hj : j < m.states.length) (hb : (wordB b && !keywordB b) = false) : checkF (setS m j b) = 13 := by
 refine check_names (q := m.rules) h (by rw [List.length_set]) rfl ?_
 refine names_key (i := j) ?_ ?_
 ·unfold namesOf
  simp only [List.length_append, List.length_set]; omega
 ·have e : (namesOf { m with states := m.states.set j b, rules := m.rules })[j]! = b := by
   unfold namesOf
   rw [getElem!_pos _ j (by simp only [List.length_append, List.length_set]; omega)]
   simp only [List.append_assoc]
   rw [List.getElem_append_left (by rw [List.length_set]; exact hj), List.getElem_set_self]
  rw [e]; exact hb
theorem setR_check {m : MD} (h : checkF m = 0) {j : Nat} (hj : j < m.rules.length) (h0 : 0 < m.states.length) : checkF (setR m j m.states[0]!) = 13 := by
 refine check_names (p := m.states) h rfl (by rw [List.length_set]) ?_
 obtain ⟨n, en⟩ : ∃ n, n = (m.states ++ m.places ++ m.letters).length := ⟨_, rfl⟩
 have hn : 0 < n := by rw [en]; simp only [List.length_append]; omega
 have e : namesOf { m with states := m.states, rules := m.rules.set j { m.rules[j]! with name := m.states[0]! } } = (m.states ++ m.places ++ m.letters) ++ (m.rules.map RD.name).set j m.states[0]! := by
  unfold namesOf; rw [List.map_set]
 rw [e]
 refine names_twice (i := 0) (j := n + j) (by omega) (by simp only [List.length_append, List.length_set, List.length_map] at en ⊢; omega) ?_
 have z1 : ((m.states ++ m.places ++ m.letters) ++ (m.rules.map RD.name).set j m.states[0]!)[n + j]! = m.states[0]! := by
  rw [getElem!_pos _ (n + j) (by simp only [List.length_append, List.length_set, List.length_map] at en ⊢; omega), List.getElem_append_right (by omega)]
  have e2 : n + j - (m.states ++ m.places ++ m.letters).length = j := by omega
  simp only [e2, List.getElem_set_self]
 have z2 : ((m.states ++ m.places ++ m.letters) ++ (m.rules.map RD.name).set j m.states[0]!)[0]! = m.states[0]! := by
  generalize (m.rules.map RD.name).set j m.states[0]! = q
  rw [getElem!_pos _ 0 (by simp only [List.length_append]; omega), getElem!_pos m.states 0 h0]
  simp only [List.append_assoc]
  rw [List.getElem_append_left h0]
 rw [z1, z2]
theorem con_namesLaw (l : List Int) : Con Tryz.prog 6 [vs 0 l] [] fun r _ => r = vb true := by
 refine Con.intro Tryz.func6 rfl Tryz.ntmps6 Tryz.results6 (by kernel_rfl) (by simp) 0 (by simp) ?_
 simp only [go_sem]
 refine CallU.free con_sane15 (by simp only [go_sem]) (by simp only [go_sem]) ?_
 rintro r bx rfl
 simp only [go_sem]
 refine CallU.free (con_dFew l) (by simp only [go_sem]) (by simp only [go_sem]) ?_
 rintro r bx rfl
 by_cases hf : (l.length : Int) ≤ 400
 case neg =>
  simp only [go_sem, hf]
  refine CallU.free con_sane15 (by simp only [go_sem]) (by simp only [go_sem]) ?_
  rintro r bx rfl
  simp only [go_sem]
 simp only [go_sem, hf]
 refine CallU.news (bx0 := []) (con_dNew l) (by simp only [go_sem]) (by simp only [go_sem]) (by simp only [go_sem]) (by simp only [go_sem]) (by simp only [go_sem]) ?_
 rintro r b ⟨rfl, rfl⟩
 simp only [go_sem]
 have hd0 : Dk l (0, 11400714819323198485) := deck_dk hf
 have hn_k := nextV_lt (l := l) (s := (0, 11400714819323198485)) (n := 6) (by omega)
 have hd_1 : Dk l (nextS l (0, 11400714819323198485) 6) := nextS_dk hd0
 refine CallU.boxes (i := 0) (is := []) (bx0 := [deckA l (0, 11400714819323198485)]) (con_dNext l (0, 11400714819323198485) 6 hd0) (by simp only [go_sem]) (by simp only [go_sem]) (by simp only [go_sem]) (by simp only [go_sem]) (by simp only [go_sem]) ?_
 rintro r b ⟨rfl, rfl⟩
 obtain ⟨k, ek, hk⟩ : ∃ k : Int, 1 + nextV l (0, 11400714819323198485) 6 = k ∧ (1 ≤ k ∧ k ≤ 6) := ⟨_, rfl, by omega⟩
 have hw_k : IntKind.i64.wrap (1 + nextV l (0, 11400714819323198485) 6) = k := by rw [wrap_in (by omega) (by omega), ek]
 simp only [go_sem, hw_k]
 generalize nextS l (0, 11400714819323198485) 6 = s1 at hd_1 ⊢
 refine CallU.boxes (i := 0) (is := []) (bx0 := [deckA l s1]) (con_dModelX l s1 k hd_1 hk) (by simp only [go_sem]) (by simp only [go_sem]) (by simp only [go_sem]) (by simp only [go_sem]) (by simp only [go_sem]) ?_
 rintro r b ⟨ns, np, nl, ra, lv, ag, rules, st, s2, hM, hd_2, rfl, rfl⟩
 have hL := hM.len
 have hC := hM.check
 have h20 := hM.few1000
 have h0 : 0 < (dealtG k ns np nl ra lv ag rules st).states.length := by
  have l1 : (dealtG k ns np nl ra lv ag rules st).states.length = ns := nmL_len _ _
  have := hM.num.states
  omega
 generalize dealtG k ns np nl ra lv ag rules st = m at hL hC h20 h0 ⊢
 simp only [go_sem, vM, cM, vss]
 refine ⟨by simp only [roomFor]; omega, by simp only [roomFor]; omega, ?_⟩
 refine CallU.hide [1984] [.pb 0 0, vss badL] (i := 0) (is := []) (bx0 := [deckA l s2]) (con_dPick l s2 badL hd_2 (by rw [badL_len]; omega) (by rw [badL_len]; omega)) (by simp only [go_sem]) ?_ (by simp only [go_sem]) (by simp only [go_sem]) (by simp only [go_sem, vss, badL, List.map_cons, List.map_nil]) (by simp only [go_sem]) (by simp only [go_sem]) ?_
 ·simp only [go_sem, vss, badL, List.map_cons, List.map_nil]
 rintro r b ⟨rfl, rfl⟩
 have hn_b := nextV_lt (l := l) (s := s2) (n := badL.length) (by rw [badL_len]; omega)
 have hd_3 : Dk l (nextS l s2 badL.length) := nextS_dk hd_2
 generalize nextS l s2 badL.length = s3 at hd_3 ⊢
 generalize nextV l s2 badL.length = v at hn_b ⊢
 rw [badL_len] at hn_b
 obtain ⟨bad, ebad, hbad⟩ : ∃ bad, bad = badL[v.toNat]! ∧ ((wordB bad && !keywordB bad) = false ∧ bad.size ≤ 5) := ⟨_, rfl, bad_at (by omega)⟩
 rw [← ebad]
 clear ebad hn_b
 by_cases hr : 0 < m.rules.length
 case neg =>
  simp only [go_sem, hr, List.length_map]
  refine DrawK.effs0 0 [6] [] 8 (.one 8 (.one 9 .done)) none (deckA l s3) mixed (by kernel_rfl) (by kernel_rfl) (by simp only [go_sem]) (by simp only [go_sem]) ?_
  simp only [go_sem, List.length_map]
  have hn_j := nextV_lt (l := l) (s := s3) (n := m.states.length) (by omega)
  refine EffK.mk (con_dNext l s3 m.states.length hd_3) (by simp only [go_sem]) (by simp only [go_sem]) (by simp only [go_sem]) (by simp only [go_sem]) ?_
  obtain ⟨j, ej⟩ : ∃ j : Nat, nextV l s3 m.states.length = j := ⟨(nextV l s3 m.states.length).toNat, by omega⟩
  have hj : j < m.states.length := by omega
  have es := modSt (x := bad) hj
  have cS := con_CheckG (setS m j bad) (setS_len hL (by omega))
  rw [setS_check hC hj hbad.1] at cS
  unfold vM cM vss at cS
  simp only [go_sem, ej, hj, List.length_map, es]
  refine ⟨CallU.freeze cS (by simp only [go_sem]) (by simp only [go_sem]; rfl) ?_, trivial⟩
  rintro r b rfl
  simp only [go_sem]
 simp only [go_sem, hr, List.length_map]
 have hd_4 : Dk l (nextS l s3 2) := nextS_dk hd_3
 refine CallU.boxes (i := 0) (is := []) (bx0 := [deckA l s3]) (con_dOne l s3 2 hd_3) (by simp only [go_sem]) (by simp only [go_sem]) (by simp only [go_sem]) (by simp only [go_sem]) (by simp only [go_sem]) ?_
 rintro r b ⟨rfl, rfl⟩
 generalize nextS l s3 2 = s4 at hd_4 ⊢
 cases oneV l s3 2
 ·simp only [go_sem]
  refine DrawK.effs0 0 [6] [] 8 (.one 8 (.one 9 .done)) none (deckA l s4) mixed (by kernel_rfl) (by kernel_rfl) (by simp only [go_sem]) (by simp only [go_sem]) ?_
  simp only [go_sem, List.length_map]
  have hn_j := nextV_lt (l := l) (s := s4) (n := m.states.length) (by omega)
  refine EffK.mk (con_dNext l s4 m.states.length hd_4) (by simp only [go_sem]) (by simp only [go_sem]) (by simp only [go_sem]) (by simp only [go_sem]) ?_
  obtain ⟨j, ej⟩ : ∃ j : Nat, nextV l s4 m.states.length = j := ⟨(nextV l s4 m.states.length).toNat, by omega⟩
  have hj : j < m.states.length := by omega
  have es := modSt (x := bad) hj
  have cS := con_CheckG (setS m j bad) (setS_len hL (by omega))
  rw [setS_check hC hj hbad.1] at cS
  unfold vM cM vss at cS
  simp only [go_sem, ej, hj, List.length_map, es]
  refine ⟨CallU.freeze cS (by simp only [go_sem]) (by simp only [go_sem]; rfl) ?_, trivial⟩
  rintro r b rfl
  simp only [go_sem]
 ·have hg0 : (m.states.map vStr)[0]? = some (vStr m.states[0]!) := by rw [List.getElem?_map, List.getElem?_eq_getElem h0, getElem!_pos m.states 0 h0]; rfl
  have hz : m.states[0]!.size ≤ 9223372036854775806 := hL.sizes _ (by unfold namesOf; simp only [List.mem_append]; exact .inl (.inl (.inl (mem_bangI h0))))
  simp only [go_sem] at hg0
  simp only [go_sem, h0, hg0, List.length_map]
  refine DrawK.effs0 0 [6] [] 8 (.one 8 (.one 9 (.one 10 .done))) none (deckA l s4) mixed (by kernel_rfl) (by kernel_rfl) (by simp only [go_sem]) (by simp only [go_sem]) ?_
  simp only [go_sem, List.length_map]
  have hn_j := nextV_lt (l := l) (s := s4) (n := m.rules.length) (by omega)
  refine EffK.mk (con_dNext l s4 m.rules.length hd_4) (by simp only [go_sem]) (by simp only [go_sem]) (by simp only [go_sem]) (by simp only [go_sem]) ?_
  obtain ⟨j, ej⟩ : ∃ j : Nat, nextV l s4 m.rules.length = j := ⟨(nextV l s4 m.rules.length).toNat, by omega⟩
  have hj : j < m.rules.length := by omega
  have es := modRu (x := m.states[0]!) hj
  have cS := con_CheckG (setR m j m.states[0]!) (setR_len hL hj hz)
  rw [setR_check hC hj h0] at cS
  unfold vM cM vss at cS
  simp only [go_sem, ej, hj, List.length_map, es]
  refine ⟨CallU.freeze cS (by simp only [go_sem]) (by simp only [go_sem]; rfl) ?_, trivial⟩
  rintro r b rfl
  simp only [go_sem]
end Go.AM

/-! ## Closed1R -/
namespace Go.Proofs.YtpmodjodfimejaaGreat
open Go.ChangeShapes Go.WideShapes Go.ChangeAt Go.RowKit Go.AM
theorem and_mk {a b : Bool} (h1 : a = true) (h2 : b = true) : (a && b) = true := by rw [h1, h2]; rfl
theorem cLaid : laidOutB Tryz.prog = true := by kernel_rfl
theorem cRowed : mapsRowed Tryz.prog = true := by kernel_rfl
theorem cHeard : Tryz.prog.stopsHeard = true := by kernel_rfl
theorem cEnter : Tryz.prog.mayEnter = true := by kernel_rfl
theorem cLifts : (Rows.modelNamesRow.lifted == Tryz.prog.liftsFinal) = true := by kernel_rfl
theorem modelNamesC0 : (Rows.modelNamesRow.wf (OpenSpec.ofChange Rows.modelNamesSpec)) = true := by kernel_rfl
theorem modelNamesC3 : (Tryz.f6.params.all (Tryz.prog.readableRec ·)) = true := by kernel_rfl
theorem modelNamesC4 : (namedTie Tryz.prog Rows.modelNamesRow.named Rows.modelNamesSpec.vars) = true := by kernel_rfl
theorem modelNamesC5 : ((Rows.modelNamesRow.stops == [])) = true := by kernel_rfl
theorem modelNamesC6 : ((Tryz.prog.stops == [])) = true := by kernel_rfl
theorem modelNamesC7 : ((Rows.modelNamesRow.knobs == [])) = true := by kernel_rfl
theorem modelNamesC8 : ((Tryz.prog.stopKnobs == [])) = true := by kernel_rfl
theorem modelNamesC9 : ((Rows.modelNamesRow.inPlace == Tryz.prog.inPlace 6)) = true := by kernel_rfl
theorem modelNamesC10 : ((Rows.modelNamesRow.unfollowed == Tryz.prog.unfollowed 6)) = true := by kernel_rfl
theorem modelNamesC11 : ((Rows.modelNamesRow.recurses == Tryz.prog.recurses 6)) = true := by kernel_rfl
theorem modelNamesC12 : ((Rows.modelNamesRow.named == Tryz.prog.varsNamed 6)) = true := by kernel_rfl
theorem modelNamesC13 : ((Rows.modelNamesRow.maps == (Tryz.f6.params.toList ++ Rows.modelNamesSpec.plain.varTypes Tryz.prog).any (Tryz.prog.mapsRec ·))) = true := by kernel_rfl
theorem modelNamesC14 : ((Rows.modelNamesRow.ifaces == (Tryz.f6.params.toList ++ Rows.modelNamesSpec.plain.varTypes Tryz.prog).any (Tryz.prog.ifacesRec ·))) = true := by kernel_rfl
theorem modelNamesC15 : ((Rows.modelNamesRow.mapsOut == Tryz.prog.mapsAmong Tryz.f6.resultTypes.toList)) = true := by kernel_rfl
theorem modelNamesC16 : ((Rows.modelNamesRow.loops == (Tryz.f6.params.toList ++ Rows.modelNamesSpec.plain.varTypes Tryz.prog).any (Tryz.prog.loopsFrom ·))) = true := by kernel_rfl
theorem modelNamesC17 : ((Rows.modelNamesRow.wideKeys == (Tryz.f6.params.toList ++ Rows.modelNamesSpec.plain.varTypes Tryz.prog ++ Tryz.f6.resultTypes.toList).any (Tryz.prog.wideKeysFrom ·))) = true := by kernel_rfl
theorem modelNamesC18 : (Rows.modelNamesSpec.vars.all (Tryz.prog.varReadable ·)) = true := by kernel_rfl
theorem modelNamesC19 : (Tryz.f6.resultTypes.all (fun t => Tryz.prog.readableRec t && decide (t < Tryz.prog.types.size))) = true := by kernel_rfl
theorem modelNamesC20 : ((Rows.modelNamesRow.ifacesOut == Tryz.f6.resultTypes.toList.any (Tryz.prog.ifacesRec ·))) = true := by kernel_rfl
theorem modelNamesC21 : ((Rows.modelNamesRow.loopsOut == Tryz.f6.resultTypes.toList.any (Tryz.prog.loopsFrom ·))) = true := by kernel_rfl
theorem modelNamesC22 : ((Rows.modelNamesRow.plainKeys == Tryz.prog.plainKeys)) = true := by kernel_rfl
theorem modelNamesC23 : (Rows.modelNamesRow.shortTexts.isNone) = true := by kernel_rfl
theorem modelNamesC27 : ((Tryz.prog.make == some Rows.modelNamesRow.make)) = true := by kernel_rfl
theorem modelNamesC28 : ((Rows.modelNamesRow.kinds == (if Rows.modelNamesRow.domain.isEmpty then [] else Tryz.f6.params.toList.map fun t => match Tryz.prog.underlying t with | some (.int k) => some k | _ => none))) = true := by kernel_rfl
theorem modelNamesC29 : ((Rows.modelNamesRow.pinned == Rows.modelNamesRow.pinnedBy)) = true := by kernel_rfl
theorem modelNamesC30 : ((Rows.modelNamesRow.veiled == (Tryz.f6.params.toList ++ Rows.modelNamesSpec.plain.varTypes Tryz.prog ++ Tryz.f6.resultTypes.toList).any (Tryz.prog.veiledRec ·))) = true := by kernel_rfl
theorem modelNamesC31 : (Rows.modelNamesRow.veiledFits Tryz.prog Tryz.f6.params.toList (Tryz.f6.params.toList ++ Rows.modelNamesSpec.plain.varTypes Tryz.prog ++ Tryz.f6.resultTypes.toList)) = true := by kernel_rfl
end Go.Proofs.YtpmodjodfimejaaGreat

/-! ## Closed1Rz -/
namespace Go.Proofs.YtpmodjodfimejaaGreat
open Go.ChangeShapes Go.WideShapes Go.ChangeAt Go.RowKit Go.AM
set_option maxRecDepth 100000
theorem modelNamesClosed : joinedFacts Tryz.prog 6 Tryz.f6 Rows.modelNamesSpec Rows.modelNamesRow = true := by
 unfold joinedFacts
 exact and_mk (and_mk (and_mk (and_mk (and_mk (and_mk (and_mk (and_mk (and_mk (and_mk (and_mk (and_mk (and_mk (and_mk (and_mk (and_mk (and_mk (and_mk (and_mk (and_mk (and_mk (and_mk (and_mk (and_mk (and_mk (and_mk (and_mk (and_mk (and_mk (and_mk (and_mk modelNamesC0 cLaid) cRowed) modelNamesC3) modelNamesC4) modelNamesC5) modelNamesC6) modelNamesC7) modelNamesC8) modelNamesC9) modelNamesC10) modelNamesC11) modelNamesC12) modelNamesC13) modelNamesC14) modelNamesC15) modelNamesC16) modelNamesC17) modelNamesC18) modelNamesC19) modelNamesC20) modelNamesC21) modelNamesC22) modelNamesC23) cHeard) cEnter) cLifts) modelNamesC27) modelNamesC28) modelNamesC29) modelNamesC30) modelNamesC31
theorem modelNamesNamed : Tryz.prog.funcNamed Rows.modelNamesRow.func = some 6 := by kernel_rfl
end Go.Proofs.YtpmodjodfimejaaGreat
