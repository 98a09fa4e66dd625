/-
  ModelNames: the walk of the law.
  Walks: the reference's comparison of lists of numbers.
  ModelRules: types are compared (a type with itself).
  ModelRules: the walk of the law.
  ModelConfigs: rows of values are compared (a row with itself).
  Plain laws: how many values a value is; configurations that are made of parts.
  ModelConfigs: the walk of the law.
  Closed facts of rows, one by one.
  Closed facts of rows, together.
-/
import Derived.Test.YtpmodjodfimejaaGreatg29
import Derived.Test.YtpmodjodfimejaaGreatg21
import Derived.Test.YtpmodjodfimejaaGreatg24
import Derived.Test.YtpmodjodfimejaaGreatg23
import Derived.Test.YtpmodjodfimejaaGreatg27
import Derived.Test.YtpmodjodfimejaaGreatg16
/-! ## KU -/
namespace Go.AM
open Go Go.Proofs Go.RowKit
set_option maxRecDepth 100000
set_option maxHeartbeats 8000000
theorem con_dPick (l : List Int) (s : DS) (xs : List ByteArray) (h : Dk l s) (h0 : 0 < xs.length) (h1 : xs.length ≤ 1000000) : Con Tryz.prog 41 [.pb 0 0, vss xs] [deckA l s]
  fun r b => r = vStr xs[(nextV l s xs.length).toNat]! ∧ b = [deckA l (nextS l s xs.length)] := by
 refine Con.intro Tryz.func41 rfl Tryz.ntmps41 Tryz.results41 (by kernel_rfl) (by simp) 1 (by simp) ?_
 have hn := nextV_lt (l := l) (s := s) (n := xs.length) (by omega)
 simp only [go_sem, vss]
 refine CallU.boxes (i := 0) (is := []) (bx0 := [deckA l s]) (con_dNext l s xs.length h) (by simp only [go_sem]) (by simp only [go_sem]) (by simp only [go_sem]) (by simp only [go_sem]) (by simp only [go_sem]) ?_
 rintro r b ⟨rfl, rfl⟩
 obtain ⟨j, ej⟩ : ∃ j : Nat, nextV l s xs.length = j := ⟨(nextV l s xs.length).toNat, by omega⟩
 have hj : j < xs.length := by omega
 have hg : (xs.map vStr)[j]? = some (vStr xs[j]!) := by rw [List.getElem?_map, List.getElem?_eq_getElem hj, getElem!_pos xs j hj]; rfl
 simp only [go_sem] at hg
 simp only [go_sem, ej, hj, hg, Int.toNat_natCast]
theorem names_key {a : List ByteArray} {i : Nat} (h : i < a.length) (hb : (wordB a[i]! && !keywordB a[i]!) = false) : namesB a = false :=
 names_bad h (by unfold okN; rw [hb]; rfl)
theorem names_twice {a : List ByteArray} {i j : Nat} (hi : i < j) (hj : j < a.length) (e : a[j]! = a[i]!) : namesB a = false := by
 refine names_bad hj ?_
 have hc : ((a.take j).map fun s => s.data.toList).contains a[j]!.data.toList = true := by
  rw [List.contains_iff_mem, e]
  refine List.mem_map.2 ⟨a[i]!, ?_, rfl⟩
  rw [getElem!_pos a i (by omega)]
  exact List.mem_take_iff_getElem.2 ⟨i, by omega, rfl⟩
 unfold okN
 rw [hc]; simp
def badL : List ByteArray := [⟨#[114, 117, 108, 101]⟩, ⟨#[115, 116, 97, 114, 116]⟩, ⟨#[109, 111, 118, 101]⟩, ⟨#[65]⟩, ⟨#[]⟩, ⟨#[49, 97]⟩]
theorem badL_len : badL.length = 6 := rfl
theorem bad_names : ∀ x ∈ badL, (wordB x && !keywordB x) = false ∧ x.size ≤ 5 := by
 have h : (badL.all fun x => !(wordB x && !keywordB x) && decide (x.size ≤ 5)) = true := by kernel_rfl
 intro x hx
 have := List.all_eq_true.1 h x hx
 rw [Bool.and_eq_true, decide_eq_true_eq, Bool.not_eq_true'] at this
 exact this
theorem bad_at {j : Nat} (h : j < 6) : (wordB badL[j]! && !keywordB badL[j]!) = false ∧ badL[j]!.size ≤ 5 := bad_names _ (mem_bangI (by rw [badL_len]; exact h))
theorem modSt {l : List ByteArray} {k : Nat} {x : ByteArray} (h : k < l.length) : (l.map vStr).modify k (updElem 0 [.sc (.string x)]) = (l.set k x).map vStr := by
 have h2 : (l.map vStr)[k]? = some (vStr l[k]!) := by rw [List.getElem?_map, List.getElem?_eq_getElem h, getElem!_pos l k h]; rfl
 rw [mod_set h2, List.map_set]; rfl
theorem modRu {l : List RD} {k : Nat} {x : ByteArray} (h : k < l.length) : (l.map vRule).modify k (updElem 0 [.sc (.string x)]) = (l.set k { l[k]! with name := x }).map vRule := by
 have h2 : (l.map vRule)[k]? = some (vRule l[k]!) := by rw [List.getElem?_map, List.getElem?_eq_getElem h, getElem!_pos l k h]; rfl
 rw [mod_set h2, List.map_set]; rfl
def setS (m : MD) (j : Nat) (b : ByteArray) : MD := { m with states := m.states.set j b }
def setR (m : MD) (j : Nat) (b : ByteArray) : MD := { m with rules := m.rules.set j { m.rules[j]! with name := b } }
theorem mem_set {α : Type} {l : List α} {j : Nat} {b x : α} (h : x ∈ l.set j b) : x ∈ l ∨ x = b := by
 rcases List.mem_or_eq_of_mem_set h with h | h
 ·exact .inl h
 ·exact .inr h
theorem setS_len {m : MD} (h : LenM m) {j : Nat} {b : ByteArray} (hb : b.size ≤ 1000) : LenM (setS m j b) := by
 refine ⟨?_, ?_, h.ranks, h.rules, h.start⟩
 ·have := h.names
  unfold setS namesOf
  unfold namesOf at this
  simp only [List.length_append, List.length_map, List.length_set] at this ⊢
  omega
 ·intro s hs
  have hh := h.sizes s
  unfold setS namesOf at hs
  unfold namesOf at hh
  simp only [List.mem_append] at hs hh
  rcases hs with (((hs | hs) | hs) | hs)
  ·rcases mem_set hs with hs | rfl
   ·exact hh (.inl (.inl (.inl hs)))
   ·omega
  ·exact hh (.inl (.inl (.inr hs)))
  ·exact hh (.inl (.inr hs))
  ·exact hh (.inr hs)
theorem setR_len {m : MD} (h : LenM m) {j : Nat} {b : ByteArray} (hj : j < m.rules.length) (hb : b.size ≤ 9223372036854775806) : LenM (setR m j b) := by
 refine ⟨?_, ?_, h.ranks, fun r hr => ?_, h.start⟩
 ·have := h.names
  unfold setR namesOf
  unfold namesOf at this
  simp only [List.length_append, List.length_map, List.length_set] at this ⊢
  omega
 ·intro s hs
  have hh := h.sizes s
  unfold setR namesOf at hs
  unfold namesOf at hh
  simp only [List.mem_append, List.map_set] at hs hh
  rcases hs with (((hs | hs) | hs) | hs)
  ·exact hh (.inl (.inl (.inl hs)))
  ·exact hh (.inl (.inl (.inr hs)))
  ·exact hh (.inl (.inr hs))
  ·rcases mem_set hs with hs | rfl
   ·exact hh (.inr hs)
   ·exact hb
 ·rcases mem_set hr with hr | rfl
  ·exact h.rules r hr
  ·have := h.rules _ (mem_bangI hj)
   exact ⟨⟨this.len.need, this.len.give, this.len.move, this.len.path, this.len.next, this.len.takes, this.len.makes⟩, this.path, this.next⟩
theorem check_names {m : MD} {p : List ByteArray} {q : List RD} (h : checkF m = 0) (hp : p.length = m.states.length) (hq : q.length = m.rules.length) (hn : namesB (namesOf { m with states := p, rules := q }) = false) : checkF { m with states := p, rules := q } = 13 := by
 obtain ⟨h1, h2, h3, _⟩ := checkF_zero h
 have e2 : sizedB { m with states := p, rules := q } = sizedB m := by unfold sizedB; rw [hp, hq]
 have e3 : rankedB { m with states := p, rules := q } = rankedB m := rfl
 unfold checkF
 rw [e2, e3, hn, h2, h3, show betweenB m.kind 1 6 = true from h1]; rfl
theorem setS_check {m : MD} (h : checkF m = 0) {j : Nat} {b : ByteArray} (hj : j < m.states.length) (hb : (wordB b && !keywordB b) = false) : checkF (setS m j b) = 13 := by
 refine check_names (q := m.rules) h (by rw [List.length_set]) rfl ?_
 refine names_key (i := j) ?_ ?_
 ·unfold namesOf
  simp only [List.length_append, List.length_set]; omega
 ·have e : (namesOf { m with states := m.states.set j b, rules := m.rules })[j]! = b := by
   unfold namesOf
   rw [getElem!_pos _ j (by simp only [List.length_append, List.length_set]; omega)]
   simp only [List.append_assoc]
   rw [List.getElem_append_left (by rw [List.length_set]; exact hj), List.getElem_set_self]
  rw [e]; exact hb
theorem setR_check {m : MD} (h : checkF m = 0) {j : Nat} (hj : j < m.rules.length) (h0 : 0 < m.states.length) : checkF (setR m j m.states[0]!) = 13 := by
 refine check_names (p := m.states) h rfl (by rw [List.length_set]) ?_
 obtain ⟨n, en⟩ : ∃ n, n = (m.states ++ m.places ++ m.letters).length := ⟨_, rfl⟩
 have hn : 0 < n := by rw [en]; simp only [List.length_append]; omega
 have e : namesOf { m with states := m.states, rules := m.rules.set j { m.rules[j]! with name := m.states[0]! } } = (m.states ++ m.places ++ m.letters) ++ (m.rules.map RD.name).set j m.states[0]! := by
  unfold namesOf; rw [List.map_set]
 rw [e]
 refine names_twice (i := 0) (j := n + j) (by omega) (by simp only [List.length_append, List.length_set, List.length_map] at en ⊢; omega) ?_
 have z1 : ((m.states ++ m.places ++ m.letters) ++ (m.rules.map RD.name).set j m.states[0]!)[n + j]! = m.states[0]! := by
  rw [getElem!_pos _ (n + j) (by simp only [List.length_append, List.length_set, List.length_map] at en ⊢; omega), List.getElem_append_right (by omega)]
  have e2 : n + j - (m.states ++ m.places ++ m.letters).length = j := by omega
  simp only [e2, List.getElem_set_self]
 have z2 : ((m.states ++ m.places ++ m.letters) ++ (m.rules.map RD.name).set j m.states[0]!)[0]! = m.states[0]! := by
  generalize (m.rules.map RD.name).set j m.states[0]! = q
  rw [getElem!_pos _ 0 (by simp only [List.length_append]; omega), getElem!_pos m.states 0 h0]
  simp only [List.append_assoc]
  rw [List.getElem_append_left h0]
 rw [z1, z2]
theorem con_namesLaw (l : List Int) : Con Tryz.prog 6 [vs 0 l] [] fun r _ => r = vb true := by
 refine Con.intro Tryz.func6 rfl Tryz.ntmps6 Tryz.results6 (by kernel_rfl) (by simp) 0 (by simp) ?_
 simp only [go_sem]
 refine CallU.free con_sane15 (by simp only [go_sem]) (by simp only [go_sem]) ?_
 rintro r bx rfl
 simp only [go_sem]
 refine CallU.free (con_dFew l) (by simp only [go_sem]) (by simp only [go_sem]) ?_
 rintro r bx rfl
 by_cases hf : (l.length : Int) ≤ 400
 case neg =>
  simp only [go_sem, hf]
  refine CallU.free con_sane15 (by simp only [go_sem]) (by simp only [go_sem]) ?_
  rintro r bx rfl
  simp only [go_sem]
 simp only [go_sem, hf]
 refine CallU.news (bx0 := []) (con_dNew l) (by simp only [go_sem]) (by simp only [go_sem]) (by simp only [go_sem]) (by simp only [go_sem]) (by simp only [go_sem]) ?_
 rintro r b ⟨rfl, rfl⟩
 simp only [go_sem]
 have hd0 : Dk l (0, 11400714819323198485) := deck_dk hf
 have hn_k := nextV_lt (l := l) (s := (0, 11400714819323198485)) (n := 6) (by omega)
 have hd_1 : Dk l (nextS l (0, 11400714819323198485) 6) := nextS_dk hd0
 refine CallU.boxes (i := 0) (is := []) (bx0 := [deckA l (0, 11400714819323198485)]) (con_dNext l (0, 11400714819323198485) 6 hd0) (by simp only [go_sem]) (by simp only [go_sem]) (by simp only [go_sem]) (by simp only [go_sem]) (by simp only [go_sem]) ?_
 rintro r b ⟨rfl, rfl⟩
 obtain ⟨k, ek, hk⟩ : ∃ k : Int, 1 + nextV l (0, 11400714819323198485) 6 = k ∧ (1 ≤ k ∧ k ≤ 6) := ⟨_, rfl, by omega⟩
 have hw_k : IntKind.i64.wrap (1 + nextV l (0, 11400714819323198485) 6) = k := by rw [wrap_in (by omega) (by omega), ek]
 simp only [go_sem, hw_k]
 generalize nextS l (0, 11400714819323198485) 6 = s1 at hd_1 ⊢
 refine CallU.boxes (i := 0) (is := []) (bx0 := [deckA l s1]) (con_dModelX l s1 k hd_1 hk) (by simp only [go_sem]) (by simp only [go_sem]) (by simp only [go_sem]) (by simp only [go_sem]) (by simp only [go_sem]) ?_
 rintro r b ⟨ns, np, nl, ra, lv, ag, rules, st, s2, hM, hd_2, rfl, rfl⟩
 have hL := hM.len
 have hC := hM.check
 have h20 := hM.few1000
 have h0 : 0 < (dealtG k ns np nl ra lv ag rules st).states.length := by
  have l1 : (dealtG k ns np nl ra lv ag rules st).states.length = ns := nmL_len _ _
  have := hM.num.states
  omega
 generalize dealtG k ns np nl ra lv ag rules st = m at hL hC h20 h0 ⊢
 simp only [go_sem, vM, cM, vss]
 refine ⟨by simp only [roomFor]; omega, by simp only [roomFor]; omega, ?_⟩
 refine CallU.hide [1984] [.pb 0 0, vss badL] (i := 0) (is := []) (bx0 := [deckA l s2]) (con_dPick l s2 badL hd_2 (by rw [badL_len]; omega) (by rw [badL_len]; omega)) (by simp only [go_sem]) ?_ (by simp only [go_sem]) (by simp only [go_sem]) (by simp only [go_sem, vss, badL, List.map_cons, List.map_nil]) (by simp only [go_sem]) (by simp only [go_sem]) ?_
 ·simp only [go_sem, vss, badL, List.map_cons, List.map_nil]
 rintro r b ⟨rfl, rfl⟩
 have hn_b := nextV_lt (l := l) (s := s2) (n := badL.length) (by rw [badL_len]; omega)
 have hd_3 : Dk l (nextS l s2 badL.length) := nextS_dk hd_2
 generalize nextS l s2 badL.length = s3 at hd_3 ⊢
 generalize nextV l s2 badL.length = v at hn_b ⊢
 rw [badL_len] at hn_b
 obtain ⟨bad, ebad, hbad⟩ : ∃ bad, bad = badL[v.toNat]! ∧ ((wordB bad && !keywordB bad) = false ∧ bad.size ≤ 5) := ⟨_, rfl, bad_at (by omega)⟩
 rw [← ebad]
 clear ebad hn_b
 by_cases hr : 0 < m.rules.length
 case neg =>
  simp only [go_sem, hr, List.length_map]
  refine DrawK.effs0 0 [6] [] 8 (.one 8 (.one 9 .done)) none (deckA l s3) mixed (by kernel_rfl) (by kernel_rfl) (by simp only [go_sem]) (by simp only [go_sem]) ?_
  simp only [go_sem, List.length_map]
  have hn_j := nextV_lt (l := l) (s := s3) (n := m.states.length) (by omega)
  refine EffK.mk (con_dNext l s3 m.states.length hd_3) (by simp only [go_sem]) (by simp only [go_sem]) (by simp only [go_sem]) (by simp only [go_sem]) ?_
  obtain ⟨j, ej⟩ : ∃ j : Nat, nextV l s3 m.states.length = j := ⟨(nextV l s3 m.states.length).toNat, by omega⟩
  have hj : j < m.states.length := by omega
  have es := modSt (x := bad) hj
  have cS := con_CheckG (setS m j bad) (setS_len hL (by omega))
  rw [setS_check hC hj hbad.1] at cS
  unfold vM cM vss at cS
  simp only [go_sem, ej, hj, List.length_map, es]
  refine ⟨CallU.freeze cS (by simp only [go_sem]) (by simp only [go_sem]; rfl) ?_, trivial⟩
  rintro r b rfl
  simp only [go_sem]
 simp only [go_sem, hr, List.length_map]
 have hd_4 : Dk l (nextS l s3 2) := nextS_dk hd_3
 refine CallU.boxes (i := 0) (is := []) (bx0 := [deckA l s3]) (con_dOne l s3 2 hd_3) (by simp only [go_sem]) (by simp only [go_sem]) (by simp only [go_sem]) (by simp only [go_sem]) (by simp only [go_sem]) ?_
 rintro r b ⟨rfl, rfl⟩
 generalize nextS l s3 2 = s4 at hd_4 ⊢
 cases oneV l s3 2
 ·simp only [go_sem]
  refine DrawK.effs0 0 [6] [] 8 (.one 8 (.one 9 .done)) none (deckA l s4) mixed (by kernel_rfl) (by kernel_rfl) (by simp only [go_sem]) (by simp only [go_sem]) ?_
  simp only [go_sem, List.length_map]
  have hn_j := nextV_lt (l := l) (s := s4) (n := m.states.length) (by omega)
  refine EffK.mk (con_dNext l s4 m.states.length hd_4) (by simp only [go_sem]) (by simp only [go_sem]) (by simp only [go_sem]) (by simp only [go_sem]) ?_
  obtain ⟨j, ej⟩ : ∃ j : Nat, nextV l s4 m.states.length = j := ⟨(nextV l s4 m.states.length).toNat, by omega⟩
  have hj : j < m.states.length := by omega
  have es := modSt (x := bad) hj
  have cS := con_CheckG (setS m j bad) (setS_len hL (by omega))
  rw [setS_check hC hj hbad.1] at cS
  unfold vM cM vss at cS
  simp only [go_sem, ej, hj, List.length_map, es]
  refine ⟨CallU.freeze cS (by simp only [go_sem]) (by simp only [go_sem]; rfl) ?_, trivial⟩
  rintro r b rfl
  simp only [go_sem]
 ·have hg0 : (m.states.map vStr)[0]? = some (vStr m.states[0]!) := by rw [List.getElem?_map, List.getElem?_eq_getElem h0, getElem!_pos m.states 0 h0]; rfl
  have hz : m.states[0]!.size ≤ 9223372036854775806 := hL.sizes _ (by unfold namesOf; simp only [List.mem_append]; exact .inl (.inl (.inl (mem_bangI h0))))
  simp only [go_sem] at hg0
  simp only [go_sem, h0, hg0, List.length_map]
  refine DrawK.effs0 0 [6] [] 8 (.one 8 (.one 9 (.one 10 .done))) none (deckA l s4) mixed (by kernel_rfl) (by kernel_rfl) (by simp only [go_sem]) (by simp only [go_sem]) ?_
  simp only [go_sem, List.length_map]
  have hn_j := nextV_lt (l := l) (s := s4) (n := m.rules.length) (by omega)
  refine EffK.mk (con_dNext l s4 m.rules.length hd_4) (by simp only [go_sem]) (by simp only [go_sem]) (by simp only [go_sem]) (by simp only [go_sem]) ?_
  obtain ⟨j, ej⟩ : ∃ j : Nat, nextV l s4 m.rules.length = j := ⟨(nextV l s4 m.rules.length).toNat, by omega⟩
  have hj : j < m.rules.length := by omega
  have es := modRu (x := m.states[0]!) hj
  have cS := con_CheckG (setR m j m.states[0]!) (setR_len hL hj hz)
  rw [setR_check hC hj h0] at cS
  unfold vM cM vss at cS
  simp only [go_sem, ej, hj, List.length_map, es]
  refine ⟨CallU.freeze cS (by simp only [go_sem]) (by simp only [go_sem]; rfl) ?_, trivial⟩
  rintro r b rfl
  simp only [go_sem]
end Go.AM

/-! ## FK -/
namespace Go.AM
open Go Go.Proofs Go.RowKit
set_option maxRecDepth 100000
set_option maxHeartbeats 8000000
def ordL (a b : Int) : Int := if a < b then -1 else if b < a then 1 else 0
def lexI : List Int → List Int → Int
 | x :: xs, y :: ys => if x = y then lexI xs ys else ordL x y
 | _, _ => 0
def cmpI (a b : List Int) : Int := if a.length = b.length then lexI a b else ordL a.length b.length
theorem ord_zero {a b : Int} : ordL a b = 0 ↔ a = b := by unfold ordL; split <;> (try split) <;> omega
theorem lex_zero : ∀ {a b : List Int}, a.length = b.length → (lexI a b = 0 ↔ a = b)
 | [], [], _ => by simp [lexI]
 | x :: xs, y :: ys, h => by
  unfold lexI
  have hl : xs.length = ys.length := by simpa using h
  split
  ·rename_i e; rw [lex_zero hl, e]; simp
  ·rename_i e; rw [ord_zero]; simp [e]
 | [], _ :: _, h => by simp at h
 | _ :: _, [], h => by simp at h
theorem cmp_zero {a b : List Int} : cmpI a b = 0 ↔ a = b := by
 unfold cmpI
 split
 ·rename_i h; exact lex_zero h
 ·rename_i h
  rw [ord_zero]
  exact ⟨fun e => by omega, fun e => by rw [e]⟩
theorem lex_drop {a b : List Int} (hl : a.length = b.length) : ∀ i, i ≤ a.length → (∀ j, j < i → a[j]! = b[j]!) → lexI a b = lexI (a.drop i) (b.drop i)
 | 0, _, _ => rfl
 | i + 1, hi, h => by
  rw [lex_drop hl i (by omega) fun j hj => h j (by omega)]
  have h1 : i < a.length := by omega
  have h2 : i < b.length := by omega
  have e := h i (by omega)
  rw [getElem!_pos a i h1, getElem!_pos b i h2] at e
  rw [List.drop_eq_getElem_cons h1, List.drop_eq_getElem_cons h2, lexI, if_pos e]
theorem lex_stop {a b : List Int} (hl : a.length = b.length) {i : Nat} (hi : i < a.length) (h : ∀ j, j < i → a[j]! = b[j]!) (hn : a[i]! ≠ b[i]!) : lexI a b = ordL a[i]! b[i]! := by
 have h2 : i < b.length := by omega
 rw [lex_drop hl i (by omega) h]
 rw [getElem!_pos a i hi, getElem!_pos b i h2] at *
 rw [List.drop_eq_getElem_cons hi, List.drop_eq_getElem_cons h2, lexI, if_neg hn]
theorem lex_same {a b : List Int} (hl : a.length = b.length) (h : ∀ j, j < a.length → a[j]! = b[j]!) : lexI a b = 0 := by
 rw [lex_drop hl a.length (Nat.le_refl _) h, List.drop_eq_nil_of_le (Nat.le_refl _)]
 unfold lexI; rfl
theorem con_rorder (a b : Int) : Con Tryz.prog 148 [vi a, vi b] [] fun r _ => r = vi (ordL a b) := by
 refine Con.intro Tryz.func148 rfl Tryz.ntmps148 Tryz.results148 (by kernel_rfl) (by simp) 0 (by simp) ?_
 unfold ordL
 by_cases h1 : a < b
 ·simp only [go_sem, h1, if_true]
 ·by_cases h2 : b < a
  ·simp only [go_sem, h1, h2, if_true, if_false]
  ·simp only [go_sem, h1, h2, if_true, if_false]
theorem con_rcompareI (a b : List Int) (ha : a.length ≤ 1000000) : Con Tryz.prog 106 [vs 0 a, vs 0 b] [] fun r _ => r = vi (cmpI a b) := by
 refine Con.intro Tryz.func106 rfl Tryz.ntmps106 Tryz.results106 (by kernel_rfl) (by simp) 0 (by simp) ?_
 by_cases hl : a.length = b.length
 case neg =>
  have hl' : ((a.length : Int) != (b.length : Int)) = true := bne_iff_ne.2 (by omega)
  have e : cmpI a b = ordL a.length b.length := by unfold cmpI; rw [if_neg hl]
  simp only [go_sem, hl', List.length_map]
  refine CallU.free (con_rorder a.length b.length) (by simp only [go_sem]) (by simp only [go_sem]) ?_
  rintro x bx rfl
  simp only [go_sem, e]
 have e : cmpI a b = lexI a b := by unfold cmpI; rw [if_pos hl]
 have hl' : ((a.length : Int) != (b.length : Int)) = false := by rw [hl]; simp
 rw [e]
 simp only [go_sem, hl', List.length_map]
 refine LoopK.intro (fun i : Nat => ⟨40, [(0, vs 0 a), (1, vs 0 b), (5, vi i)], []⟩)
  (fun i => a.length - i) (fun i => i ≤ a.length ∧ ∀ j, j < i → a[j]! = b[j]!) 0 ⟨by omega, fun j hj => by omega⟩ ?_ ?_
 ·simp only [go_sem]
  all_goals exact leV_refl _
 rintro i ⟨hi, hb⟩
 by_cases h : i < a.length
 ·have h2 : i < b.length := by omega
  have g1 := getv h
  have g2 := getv h2
  have hw : IntKind.i64.wrap (i + 1) = i + 1 := wrap_in (by omega) (by omega)
  simp only [go_sem, h]
  refine DrawK.walk 9 mixed (by kernel_rfl) ?_
  by_cases hp : a[i]! = b[i]!
  ·have hp' : (a[i]! != b[i]!) = false := by rw [hp]; simp
   simp only [go_sem, h, h2, g1, g2, hp', hw]
   refine roundK.intro (i + 1) ⟨by omega, fun j hj => ?_⟩ (by omega) ?_
   ·by_cases hji : j = i
    ·subst hji; exact hp
    ·exact hb j (by omega)
   ·simp only [go_sem]
  ·have hp' : (a[i]! != b[i]!) = true := bne_iff_ne.2 hp
   have e2 := lex_stop hl h hb hp
   simp only [go_sem, h, h2, g1, g2, hp']
   refine DrawK.walk 10 mixed (by kernel_rfl) ?_
   simp only [go_sem, h, h2, g1, g2]
   refine CallY.mk (con_rorder a[i]! b[i]!) (by simp only [go_sem]) (by simp only [go_sem]) (.inl (by simp only [go_sem])) ?_
   simp only [go_sem, e2]
 ·have e2 := lex_same hl fun j hj => hb j (by omega)
  simp only [go_sem, h, e2]
theorem con_rsameI (a b : List Int) (ha : a.length ≤ 1000000) : Con Tryz.prog 51 [vs 0 a, vs 0 b] [] fun r _ => r = vb (a == b) := by
 refine Con.intro Tryz.func51 rfl Tryz.ntmps51 Tryz.results51 (by kernel_rfl) (by simp) 0 (by simp) ?_
 simp only [go_sem]
 refine CallU.free (con_rcompareI a b ha) (by simp only [go_sem]) (by simp only [go_sem]) ?_
 rintro x bx rfl
 have e : (cmpI a b == 0) = (a == b) := by rw [Bool.eq_iff_iff, beq_iff_eq, beq_iff_eq]; exact cmp_zero
 simp only [go_sem, e]
end Go.AM

/-! ## KX -/
namespace Go.AM
open Go Go.Proofs Go.RowKit
set_option maxRecDepth 100000
set_option maxHeartbeats 8000000
theorem con_ltypesN : ∀ (N : Nat) (t : TD), SizeOf.sizeOf t ≤ N → t.Ok → Con Tryz.prog 27 [vT t, vT t] [] fun r _ => r = vb true := by
 intro N
 induction N with
 | zero => intro t hs; cases t; rw [TD.mk.sizeOf_spec] at hs; omega
 | succ N ih =>
  intro t hs ht
  have hpl := ht.plen
  have hS := con_rsameI t.ranks t.ranks ht.rlen
  rw [show (t.ranks == t.ranks) = true from beq_iff_eq.2 rfl] at hS
  have e1 := vT_eq t
  rw [e1]
  refine Con.intro Tryz.func27 rfl Tryz.ntmps27 Tryz.results27 (by kernel_rfl) (by simp) 2 (by simp) ?_
  have b1 : (t.kind != t.kind) = false := by simp
  have b2 : (t.size != t.size) = false := by simp
  have b3 : ((t.parts.length : Int) != t.parts.length) = false := by simp
  simp only [go_sem, b1, b2]
  refine CallU.free hS (by simp only [go_sem]) (by simp only [go_sem]) ?_
  rintro r bx rfl
  simp only [go_sem, List.length_map, b3]
  refine LoopK.intro (fun i : Nat => ⟨54, [(2, .pb 0 0), (3, .pb 1 0), (37, vi t.parts.length), (38, vi i)], [[vi t.kind, vi t.size, vs 0 t.ranks, .sl 0 4 (t.parts.map vT)], [vi t.kind, vi t.size, vs 0 t.ranks, .sl 0 4 (t.parts.map vT)]]⟩)
   (fun i => t.parts.length - i) (fun i => i ≤ t.parts.length) 0 (by omega) ?_ ?_
  ·simp only [go_sem]
  rintro i hi
  by_cases h : i < t.parts.length
  ·have hw : IntKind.i64.wrap (i + 1) = i + 1 := wrap_in (by omega) (by omega)
   have hx := mem_bangI h
   have hg := getvT h
   have hc := ih t.parts[i]! (by have := part_size hx; omega) (ht.part hx)
   rw [vT_eq] at hc
   simp only [go_sem, h]
   refine DrawK.walk 12 mixed (by kernel_rfl) ?_
   simp only [go_sem, hg, h, List.length_map]
   refine CallY.mk hc (by simp only [go_sem]) (by simp only [go_sem]) (.inl (by simp only [go_sem])) ?_
   simp only [go_sem, hw]
   exact roundK.intro (i + 1) (by omega) (by omega) (by simp only [go_sem])
  ·have ei : i = t.parts.length := by omega
   subst ei
   simp only [go_sem, h]
theorem con_ltypes (t : TD) (h : t.Ok) : Con Tryz.prog 27 [vT t, vT t] [] fun r _ => r = vb true := con_ltypesN _ t (Nat.le_refl _) h
end Go.AM

/-! ## KY -/
namespace Go.AM
open Go Go.Proofs Go.RowKit
set_option maxRecDepth 100000
theorem con_rsameV (a b : CV) (ha : a.Ok) (hb : b.Ok) : Con Tryz.prog 36 [vV a, vV b] [] fun r _ => r = vb (cmpV a b == 0) := by
 have hc := con_rcompare _ a b (Nat.le_refl _) ha hb
 rw [vV_eq, vV_eq] at hc ⊢
 refine Con.intro Tryz.func36 rfl Tryz.ntmps36 Tryz.results36 (by kernel_rfl) (by simp) 0 (by simp) ?_
 simp only [go_sem]
 refine CallU.free hc (by simp only [go_sem]) (by simp only [go_sem]) ?_
 rintro r bx rfl
 simp only [go_sem]
theorem names_iff {l : List ByteArray} : namesB l = true ↔ (∀ x ∈ l, (wordB x && !keywordB x) = true) ∧ (l.map fun s => s.data.toList).Nodup := by
 constructor
 ·intro h
  have hk : ∀ i, i < l.length → okN l i = true := fun i hi => List.all_eq_true.1 h i (List.mem_range.2 hi)
  refine ⟨fun x hx => ?_, ?_⟩
  ·obtain ⟨i, hi, rfl⟩ := List.getElem_of_mem hx
   have := hk i hi
   unfold okN at this
   rw [Bool.and_eq_true, getElem!_pos l i hi] at this
   exact this.1
  ·show List.Pairwise (· ≠ ·) _
   rw [List.pairwise_iff_getElem]
   intro i j hi' hj' hij
   have hj : j < l.length := by rw [List.length_map] at hj'; exact hj'
   have := hk j hj
   unfold okN at this
   rw [Bool.and_eq_true, Bool.not_eq_true', getElem!_pos l j hj] at this
   intro e
   have e2 : l[i].data.toList = l[j].data.toList := by simpa only [List.getElem_map] using e
   have hc : ((l.take j).map fun s => s.data.toList).contains l[j].data.toList = true := by
    rw [List.contains_iff_mem, ← e2]
    exact List.mem_map.2 ⟨l[i], List.mem_take_iff_getElem.2 ⟨i, by omega, rfl⟩, rfl⟩
   rw [hc] at this
   cases this.2
 ·rintro ⟨h1, h2⟩
  refine names_ok fun i hi => ?_
  unfold okN
  rw [Bool.and_eq_true, Bool.not_eq_true', getElem!_pos l i hi]
  refine ⟨h1 _ (List.getElem_mem hi), ?_⟩
  rw [← Bool.not_eq_true]
  intro hc
  rw [List.contains_iff_mem] at hc
  obtain ⟨x, hx, e⟩ := List.mem_map.1 hc
  obtain ⟨q, hq, rfl⟩ := List.mem_take_iff_getElem.1 hx
  have h3 : List.Pairwise (· ≠ ·) (l.map fun s => s.data.toList) := h2
  rw [List.pairwise_iff_getElem] at h3
  refine h3 q i (by rw [List.length_map]; omega) (by rw [List.length_map]; exact hi) (by omega) ?_
  rw [List.getElem_map, List.getElem_map, e]
theorem names_sub {a b : List ByteArray} (h : a.Sublist b) (hb : namesB b = true) : namesB a = true := by
 obtain ⟨h1, h2⟩ := names_iff.1 hb
 exact names_iff.2 ⟨fun x hx => h1 x (h.subset hx), List.Nodup.sublist (h.map _) h2⟩
def lessM (m : MD) (rs : List RD) (st : CV) : MD := { m with rules := rs, start := st }
theorem less_len {m : MD} {rs : List RD} {st : CV} (h : LenM m) (hs : rs.Sublist m.rules) (hst : st.Ok) : LenM (lessM m rs st) := by
 have hn : (namesOf (lessM m rs st)).Sublist (namesOf m) := List.Sublist.append (List.Sublist.refl _) (hs.map _)
 exact ⟨Nat.le_trans hn.length_le h.names, fun s hx => h.sizes s (hn.subset hx), h.ranks, fun r hr => h.rules r (hs.subset hr), hst⟩
theorem less_check {m : MD} {rs : List RD} {st : CV} (h : checkF m = 0) (hs : rs.Sublist m.rules) (hst : st = m.start ∨ (m.kind ≠ 6 ∧ validV (typeM m) st = true)) : checkF (lessM m rs st) = 0 := by
 obtain ⟨h1, h2, h3, h4, h5, h6⟩ := checkF_zero h
 have hn : (namesOf (lessM m rs st)).Sublist (namesOf m) := List.Sublist.append (List.Sublist.refl _) (hs.map _)
 have e2 : sizedB (lessM m rs st) = true := by
  have hl := hs.length_le
  unfold sizedB at h2 ⊢
  simp only [Bool.and_eq_true, decide_eq_true_eq] at h2 ⊢
  exact ⟨⟨⟨⟨⟨h2.1.1.1.1.1, by show rs.length ≤ 12; omega⟩, h2.1.1.1.2⟩, h2.1.1.2⟩, h2.1.2⟩, h2.2⟩
 have e4 := names_sub hn h4
 have e5 : ((lessM m rs st).rules.any fun r => !rightR (lessM m rs st) r) = false := by
  rw [List.any_eq_false]
  intro r hr
  have := h5 r (hs.subset hr)
  have e : rightR (lessM m rs st) r = rightR m r := rfl
  rw [e, this]; decide
 have e6 : beginsF (lessM m rs st) = true := by
  rcases hst with rfl | ⟨hk, hv⟩
  ·exact h6
  ·unfold beginsF
   rw [if_neg (show ¬ (lessM m rs st).kind = 6 from hk)]
   exact hv
 unfold checkF
 rw [e2, e4, e5, e6, show betweenB (lessM m rs st).kind 1 6 = true from h1, show rankedB (lessM m rs st) = true from h3]
 simp only [Bool.true_eq_false, Bool.false_eq_true, if_false]
theorem less_type {m : MD} {rs : List RD} {st : CV} (h : checkF m = 0) (h' : checkF (lessM m rs st) = 0) : typeF (lessM m rs st) = typeM m ∧ typeF m = typeM m := by
 unfold typeF
 rw [if_pos h, if_pos h']
 exact ⟨rfl, rfl⟩
theorem less_same0 {m : MD} {st : CV} (h : m.rules.length = 0) : sameMD m (lessM m m.rules st) = (cmpV m.start st == 0) := by
 unfold sameMD lessM
 have e : sameRs m.rules m.rules = true := by unfold sameRs; rw [h]; simp
 simp only [sameSs_refl, e, beq_self_eq_true, Bool.true_and]
theorem less_same1 {m : MD} {rs : List RD} {st : CV} (h : rs.length < m.rules.length) : sameMD m (lessM m rs st) = false := by
 unfold sameMD lessM
 have e : sameRs m.rules rs = false := by unfold sameRs; rw [decide_eq_false (by omega), Bool.false_and]
 simp only [e, Bool.and_false, Bool.false_and]
end Go.AM

/-! ## KO -/
namespace Go.AM
open Go Go.Proofs Go.RowKit
set_option maxRecDepth 100000
set_option maxHeartbeats 8000000
theorem con_rsameAllV (xs : List CV) (hl : xs.length ≤ 1000000) (h : ∀ x ∈ xs, x.Ok ∧ cmpV x x = 0) : Con Tryz.prog 40 [vrow xs, vrow xs] [] fun r _ => r = vb true := by
 refine Con.intro Tryz.func40 rfl Tryz.ntmps40 Tryz.results40 (by kernel_rfl) (by simp) 0 (by simp) ?_
 have b1 : ((xs.length : Int) != xs.length) = false := by simp
 simp only [go_sem, vrow, List.length_map, b1]
 refine LoopK.intro (fun i : Nat => ⟨27, [(0, vrow xs), (1, vrow xs), (5, vi i)], []⟩)
  (fun i => xs.length - i) (fun i => i ≤ xs.length) 0 (by omega) ?_ ?_
 ·simp only [go_sem, vrow]
 rintro i hi
 by_cases hh : i < xs.length
 ·have hw : IntKind.i64.wrap (i + 1) = i + 1 := wrap_in (by omega) (by omega)
  have hx := h _ (mem_bangI hh)
  have hc := con_rsameV xs[i]! xs[i]! hx.1 hx.1
  rw [hx.2, vV_eq] at hc
  have hg : (xs.map vV)[i]? = some (.ag [vi xs[i]!.n, .sl 0 2 (xs[i]!.kids.map vV)]) := by rw [List.getElem?_map, List.getElem?_eq_getElem hh, getElem!_pos xs i hh, ← vV_eq]; rfl
  simp only [go_sem] at hg
  simp only [go_sem, vrow, hh, List.length_map]
  refine DrawK.walk 10 mixed (by kernel_rfl) ?_
  simp only [go_sem, hg, hh, List.length_map]
  refine CallY.mk hc (by simp only [go_sem]) (by simp only [go_sem]) (.inl (by simp only [go_sem])) ?_
  simp only [go_sem, hw]
  exact roundK.intro (i + 1) (by omega) (by omega) (by simp only [go_sem])
 ·have ei : i = xs.length := by omega
  subst ei
  simp only [go_sem, vrow, hh, List.length_map]
end Go.AM

/-! ## LConf -/
namespace Go.AM
open Go Go.Proofs Go.RowKit
mutual
def nV : CV → Int
 | .mk _ kids => nVs kids + 1
def nVs : List CV → Int
 | [] => 0
 | k :: l => nV k + nVs l
end
mutual
theorem nV_pos : ∀ v : CV, 1 ≤ nV v
 | .mk _ kids => by have := nVs_pos kids; rw [nV]; omega
theorem nVs_pos : ∀ l : List CV, 0 ≤ nVs l
 | [] => by rw [nVs]; omega
 | k :: l => by have := nV_pos k; have := nVs_pos l; rw [nVs]; omega
end
mutual
theorem countV_eq : ∀ (v : CV) (most : Int), 0 ≤ most → countV v most = min (nV v) (most + 1)
 | .mk _ kids, most, h => by
  have := countVs_eq kids most 1 h (by omega) (by omega)
  rw [countV, nV, this, Int.add_comm]
theorem countVs_eq : ∀ (l : List CV) (most n : Int), 0 ≤ most → 1 ≤ n → n ≤ most + 1 → countVs l most n = min (n + nVs l) (most + 1)
 | [], most, n, h, h1, h2 => by rw [countVs, nVs]; omega
 | k :: l, most, n, h, h1, h2 => by
  have hp := nVs_pos l
  have hk := nV_pos k
  rw [countVs, nVs]
  by_cases hm : most < n
  ·rw [if_pos hm]; omega
  ·rw [if_neg hm]
   have e1 := countV_eq k (most - n) (by omega)
   rw [e1]
   have e2 := countVs_eq l most (n + min (nV k) (most - n + 1)) h (by omega) (by omega)
   rw [e2]; omega
end
theorem nV_kid {l : List CV} {x : CV} (h : x ∈ l) : nV x ≤ nVs l := by
 induction l with
 | nil => cases h
 | cons y l ih =>
  rw [nVs]
  rcases List.mem_cons.1 h with rfl | h
  ·have := nVs_pos l; omega
  ·have := ih h; have := nV_pos y; omega
theorem nV_with {s : Int} {l : List CV} : nV (withC s l) = nVs l + 2 := by
 unfold withC
 rw [nV, nVs, nV, nVs]; omega
theorem cmpV_self (a : CV) : cmpV a a = 0 := by have := cmpV_anti a a; omega
theorem parts_few {s : Int} {l : List CV} (h : countV (withC s l) 128 ≤ 128) : (l.any fun x => decide (128 < countV x 128)) = false := by
 rw [countV_eq _ _ (by omega), nV_with] at h
 rw [List.any_eq_false]
 intro x hx
 have := nV_kid hx
 rw [countV_eq _ _ (by omega), decide_eq_true_eq]
 omega
theorem count_with {s s' : Int} {l : List CV} : countV (withC s l) 128 = countV (withC s' l) 128 := by
 rw [countV_eq _ _ (by omega), countV_eq _ _ (by omega), nV_with, nV_with]
theorem valid_with {m : MD} {c : CV} (h : validV (typeM m) c = true) : c = withC c.kids[0]!.n (c.kids.drop 1) ∧ 0 ≤ c.kids[0]!.n ∧ c.kids[0]!.n < m.states.length ∧ (c.kids.drop 1).length + 1 = (partsM m).length := by
 unfold validV at h
 simp only [Bool.and_eq_true] at h
 have ho := h.2
 obtain ⟨n, kids⟩ := c
 unfold typeM prodT at ho
 rw [oneT] at ho
 simp only [TD.kind, TD.size, TD.parts] at ho
 rw [if_pos trivial, if_neg (by omega), if_neg (by omega)] at ho
 simp only [Bool.and_eq_true, beq_iff_eq] at ho
 obtain ⟨⟨h1, h2⟩, h3⟩ := ho
 have hp : partsM m = labelT m.states.length :: (partsM m).tail := rfl
 rw [hp] at h2 h3
 cases kids with
 | nil => simp at h2
 | cons k l =>
  rw [zipT, Bool.and_eq_true] at h3
  obtain ⟨kn, kk⟩ := k
  have h4 := h3.1
  unfold labelT at h4
  rw [oneT] at h4
  simp only [TD.kind, TD.size] at h4
  rw [if_pos trivial, if_neg (by omega)] at h4
  simp only [Bool.and_eq_true, beq_iff_eq, decide_eq_true_eq, List.length_eq_zero_iff] at h4
  obtain ⟨⟨h5, h6⟩, h7⟩ := h4
  subst h7; subst h1
  refine ⟨rfl, h5, of_decide_eq_true h6, ?_⟩
  rw [hp]
  exact of_decide_eq_true h2
theorem valid_state {m : MD} {s s' : Int} {l : List CV} (h : validV (typeM m) (withC s l) = true) : validV (typeM m) (withC s' l) = (decide (0 ≤ s') && decide (s' < m.states.length)) := by
 have hp : partsM m = labelT m.states.length :: (partsM m).tail := rfl
 have key : ∀ t : Int, oneT (withC t l) (typeM m) = (decide (l.length + 1 = (partsM m).length) && ((decide (0 ≤ t) && decide (t < m.states.length)) && zipT l (partsM m).tail)) := fun t => by
  unfold withC typeM prodT
  rw [oneT]
  simp only [TD.kind, TD.size, TD.parts]
  rw [if_pos trivial, hp, zipT]
  unfold labelT
  rw [oneT]
  simp only [TD.kind, TD.size]
  rw [if_pos trivial, Bool.eq_iff_iff]
  simp
  intros
  exact decide_eq_true_iff
 unfold validV at h ⊢
 rw [key] at h ⊢
 rw [count_with (s := s') (s' := s)]
 simp only [Bool.and_eq_true] at h
 rw [h.1.1, h.1.2, h.2.1, h.2.2.2]
 simp
theorem conf_good {m : MD} {s s' : Int} {l : List CV} (hc : checkF m = 0) (h : validV (typeM m) (withC s l) = true) (hl : l.length ≤ 8) : confP m s' l = if 0 ≤ s' ∧ s' < m.states.length then (withC s' l, 0) else (noV, 17) := by
 have hb : bigB l = false := by
  have h2 := h
  unfold validV at h2
  simp only [Bool.and_eq_true, decide_eq_true_eq] at h2
  unfold bigB
  rw [parts_few h2.1.2, decide_eq_false (by omega)]; rfl
 unfold confP
 rw [if_neg (fun e => e hc), if_neg (by rw [hb]; decide), valid_state h]
 by_cases h1 : 0 ≤ s' ∧ s' < m.states.length
 ·rw [if_pos h1, if_pos (by rw [Bool.and_eq_true]; exact ⟨decide_eq_true h1.1, decide_eq_true h1.2⟩)]
 ·rw [if_neg h1, if_neg (fun e => by rw [Bool.and_eq_true] at e; exact h1 ⟨of_decide_eq_true e.1, of_decide_eq_true e.2⟩)]
end Go.AM

/-! ## KP -/
namespace Go.AM
open Go Go.Proofs Go.RowKit
set_option maxRecDepth 100000
set_option maxHeartbeats 8000000
theorem con_configsLaw (l : List Int) : Con Tryz.prog 4 [vs 0 l] [] fun r _ => r = vb true := by
 refine Con.intro Tryz.func4 rfl Tryz.ntmps4 Tryz.results4 (by kernel_rfl) (by simp) 0 (by simp) ?_
 simp only [go_sem]
 refine CallU.free con_sane15 (by simp only [go_sem]) (by simp only [go_sem]) ?_
 rintro r bx rfl
 simp only [go_sem]
 refine CallU.free (con_dFew l) (by simp only [go_sem]) (by simp only [go_sem]) ?_
 rintro r bx rfl
 by_cases hf : (l.length : Int) ≤ 400
 case neg =>
  simp only [go_sem, hf]
  refine CallU.free con_sane15 (by simp only [go_sem]) (by simp only [go_sem]) ?_
  rintro r bx rfl
  simp only [go_sem]
 simp only [go_sem, hf]
 refine CallU.news (bx0 := []) (con_dNew l) (by simp only [go_sem]) (by simp only [go_sem]) (by simp only [go_sem]) (by simp only [go_sem]) (by simp only [go_sem]) ?_
 rintro r b ⟨rfl, rfl⟩
 simp only [go_sem]
 have hd0 : Dk l (0, 11400714819323198485) := deck_dk hf
 have hn_k := nextV_lt (l := l) (s := (0, 11400714819323198485)) (n := 6) (by omega)
 have hd_1 : Dk l (nextS l (0, 11400714819323198485) 6) := nextS_dk hd0
 refine CallU.boxes (i := 0) (is := []) (bx0 := [deckA l (0, 11400714819323198485)]) (con_dNext l (0, 11400714819323198485) 6 hd0) (by simp only [go_sem]) (by simp only [go_sem]) (by simp only [go_sem]) (by simp only [go_sem]) (by simp only [go_sem]) ?_
 rintro r b ⟨rfl, rfl⟩
 obtain ⟨k, ek, hk⟩ : ∃ k : Int, 1 + nextV l (0, 11400714819323198485) 6 = k ∧ (1 ≤ k ∧ k ≤ 6) := ⟨_, rfl, by omega⟩
 have hw_k : IntKind.i64.wrap (1 + nextV l (0, 11400714819323198485) 6) = k := by rw [wrap_in (by omega) (by omega), ek]
 simp only [go_sem, hw_k]
 generalize nextS l (0, 11400714819323198485) 6 = s1 at hd_1 ⊢
 refine CallU.boxes (i := 0) (is := []) (bx0 := [deckA l s1]) (con_dModelX l s1 k hd_1 hk) (by simp only [go_sem]) (by simp only [go_sem]) (by simp only [go_sem]) (by simp only [go_sem]) (by simp only [go_sem]) ?_
 rintro r b ⟨ns, np, nl, ra, lv, ag, rules, st, s2, hM, hd_2, rfl, rfl⟩
 have hL := hM.len
 have hC := hM.check
 have h20 := hM.few1000
 have hO : OwnX (dealtG k ns np nl ra lv ag rules st) := hM.num.own
 generalize dealtG k ns np nl ra lv ag rules st = m at hL hC h20 hO ⊢
 have hsz := hO.size
 have htok : (typeM m).Ok := type_ok hsz.1 hsz.2
 have e1 : vM m = .ag [vi m.kind, vss m.states, vss m.places, vss m.letters, vs 0 m.ranks, vi m.levels, vi m.age, .sl 0 14 (m.rules.map vRule), vi m.start.n, .sl 0 2 (m.start.kids.map vV)] := rfl
 have t1 := con_TypeG m hL
 have et : typeF m = typeM m := by unfold typeF; rw [if_pos hC]
 rw [et, hC, vT_eq] at t1
 have hcf := con_dConfigX l s2 m hO hd_2
 have hva := config_valid (l := l) (s := s2) hO
 have hsl := valF_slim (l := l) (s := s2) htok
 have hd_3 := valF_dk (l := l) (s := s2) (t := typeM m) hd_2
 have hpl := partsM_len hO
 generalize valF l s2 (typeM m) = q at hcf hva hsl hd_3
 obtain ⟨c, s3⟩ := q
 simp only at hva hsl hd_3 hcf
 obtain ⟨w1, w2, w3, w4⟩ := valid_with hva
 have cS := con_StateG m c hL hsl.ok
 have es : stateF m c = (c.kids[0]!.n, 0) := by unfold stateF; rw [if_pos hC, if_pos hva]
 have cC := con_CheckG m hL
 have cV := con_ValidG m c hL hsl.ok
 have ev : confG m c = true := by unfold confG; rw [decide_eq_true hC, hva]; rfl
 have cR := con_rtValid (typeM m) c htok hsl.ok
 rw [es] at cS
 rw [hC] at cC
 rw [ev] at cV
 rw [hva, vT_eq] at cR
 rw [vV_eq c] at cS cV cR
 have g1 := fun s' => conf_good (s' := s') hC (w1 ▸ hva) (by omega)
 unfold vM cM vss at t1 cS cC cV
 have b1 : (decide (c.kids[0]!.n < 0)) = false := decide_eq_false (by omega)
 have b2 : (decide ((m.states.length : Int) ≤ c.kids[0]!.n)) = false := decide_eq_false (by omega)
 simp only [go_sem, vss]
 refine CallU.free t1 (by simp only [go_sem]) (by simp only [go_sem]) ?_
 rintro r b rfl
 simp only [go_sem]
 refine CallU.hide [] [.pb 0 0, hidA m] (i := 0) (is := []) (bx0 := [deckA l s2]) hcf (by simp only [go_sem]) ?_ (by simp only [go_sem]) (by simp only [go_sem]) (by simp only [go_sem]) (by simp only [go_sem]) (by simp only [go_sem]) ?_
 ·simp only [go_sem, vss]
  exact leV_ag ⟨leV_refl _, leV_refl _, leV_refl _, leV_refl _, leV_refl _, leV_refl _, leV_refl _, leV_any _, leV_any _, leV_any _, trivial⟩
 rintro r b ⟨rfl, rfl⟩
 simp only [go_sem]
 refine CallU.free cS (by simp only [go_sem]) (by simp only [go_sem]) ?_
 rintro r b rfl
 simp only [go_sem]
 refine CallU.free cC (by simp only [go_sem]) (by simp only [go_sem]) ?_
 rintro r b rfl
 simp only [go_sem]
 refine CallU.free cV (by simp only [go_sem]) (by simp only [go_sem]) ?_
 rintro r b rfl
 simp only [go_sem]
 refine CallU.free cR (by simp only [go_sem]) (by simp only [go_sem]) ?_
 rintro r b rfl
 simp only [go_sem, b1, b2, List.length_map]
 have hRl : (c.kids.drop 1).length ≤ 8 := by omega
 have hRs : ∀ x ∈ c.kids.drop 1, x.Slim := fun x hx => hsl.kid (List.mem_of_mem_drop hx)
 have hk1 : 1 ≤ c.kids.length := by
  rw [w1]
  show 1 ≤ (_ :: _ : List CV).length
  simp
 have eD : List.drop 1 (List.take c.kids.length (c.kids.map vV)) = (c.kids.drop 1).map vV := by rw [List.take_of_length_le (by simp), List.map_drop]
 have hP1 := con_ConfigP m c.kids[0]!.n (c.kids.drop 1) hL (by omega) hRs
 rw [g1, if_pos ⟨w2, w3⟩, ← w1] at hP1
 have hP3 := con_ConfigP m m.states.length (c.kids.drop 1) hL (by omega) hRs
 rw [g1, if_neg (by omega)] at hP3
 have hnx := nextV_lt (l := l) (s := s3) (n := m.states.length) (by omega)
 have hd_4 : Dk l (nextS l s3 m.states.length) := nextS_dk hd_3
 have hNx := con_dNext l s3 m.states.length hd_3
 generalize nextS l s3 m.states.length = s4 at hd_4 hNx
 generalize nextV l s3 m.states.length = j at hnx hNx
 have hP2 := con_ConfigP m j (c.kids.drop 1) hL (by omega) hRs
 rw [g1, if_pos hnx] at hP2
 unfold vrow vM cM vss at hP1 hP2 hP3
 have eW : (withC j (c.kids.drop 1)).kids = .mk j [] :: c.kids.drop 1 := rfl
 have eWn : (withC j (c.kids.drop 1)).n = 0 := rfl
 have eN : noV.kids = [] := rfl
 have hrep : List.replicate 2 AV.any = [.any, .any] := rfl
 have eV : vV (.mk j []) = .ag [vi j, .sl 0 2 []] := by rw [vV_eq]; rfl
 refine DrawK.meet ⟨136, [(3, .pb 0 0), (4, .pb 1 0), (7, .pb 3 0), (10, .pb 4 0), (11, vi 0)], [deckA l s3, [vi m.kind, .sl 0 1 (m.states.map vStr), .sl 0 1 (m.places.map vStr), .sl 0 1 (m.letters.map vStr), vs 0 m.ranks, vi m.levels, vi m.age, .sl 0 14 (m.rules.map vRule), vi m.start.n, .sl 0 2 (m.start.kids.map vV)], [vi (typeM m).kind, vi (typeM m).size, vs 0 (typeM m).ranks, .sl 0 4 ((typeM m).parts.map vT)], [vi c.n, .sl 0 2 (c.kids.map vV)], [vi c.n, .sl 0 2 (c.kids.map vV)]]⟩ ?_ ?_
 ·refine DrawK.news0 [(9, 4)] [2] [] 0 [] [] 10 (.one 10 (.one 11 .done)) (some (8, .alt (.one 8 (.one 10 (.one 11 .done))) (.one 10 (.one 8 (.one 11 .done))))) (deckA l s3) mixed (by kernel_rfl) (by kernel_rfl) (by kernel_rfl) (by simp only [go_sem]) (by simp only [go_sem]) ⟨by simp only [go_sem], by simp only [go_sem]⟩ ⟨by simp only [go_sem], by simp only [go_sem]⟩ ?_
  simp only [go_sem, List.length_map, eD]
  refine ⟨hk1, Nat.le_refl _, CallY.mk hP1 (by simp only [go_sem]) (by simp only [go_sem]) (.inl (by simp only [go_sem])) ?_⟩
  simp only [go_sem, hrep]
  repeat' (first | with_reducible apply andK_mk | exact trivial | simp only [go_sem, eW, eWn, eV, eN, List.map_cons, List.map_nil])
 simp only [go_sem]
 refine DrawK.meet ⟨136, [(3, .pb 0 0), (4, .pb 1 0), (7, .pb 3 0), (10, .pb 4 0), (11, vi 0), (12, .pb 5 0), (13, vi 0)], [deckA l s4, [vi m.kind, .sl 0 1 (m.states.map vStr), .sl 0 1 (m.places.map vStr), .sl 0 1 (m.letters.map vStr), vs 0 m.ranks, vi m.levels, vi m.age, .sl 0 14 (m.rules.map vRule), vi m.start.n, .sl 0 2 (m.start.kids.map vV)], [vi (typeM m).kind, vi (typeM m).size, vs 0 (typeM m).ranks, .sl 0 4 ((typeM m).parts.map vT)], [vi c.n, .sl 0 2 (c.kids.map vV)], [vi c.n, .sl 0 2 (c.kids.map vV)], [vi 0, .sl 0 2 (.ag [vi j, .sl 0 2 []] :: (c.kids.drop 1).map vV)]]⟩ ?_ ?_
 ·refine DrawK.news0 [(13, 5)] [2] [] 0 [5] [] 14 (.one 14 (.one 15 .done)) (some (12, .alt (.one 12 (.one 14 (.one 15 .done))) (.one 14 (.one 12 (.one 15 .done))))) (deckA l s3) mixed (by kernel_rfl) (by kernel_rfl) (by kernel_rfl) (by simp only [go_sem]) (by simp only [go_sem]) ⟨by simp only [go_sem], by simp only [go_sem]⟩ ⟨by simp only [go_sem], by simp only [go_sem]⟩ ?_
  simp only [go_sem, List.length_map]
  refine EffK.mk hNx (by simp only [go_sem]) (by simp only [go_sem]) (by simp only [go_sem]) (by simp only [go_sem]) ?_
  simp only [go_sem, List.length_map, eD]
  refine ⟨hk1, Nat.le_refl _, CallY.mk hP2 (by simp only [go_sem]) (by simp only [go_sem]) (.inl (by simp only [go_sem])) ?_⟩
  simp only [go_sem, hrep]
  repeat' (first | with_reducible apply andK_mk | exact trivial | simp only [go_sem, eW, eWn, eV, List.map_cons])
 simp only [go_sem]
 refine DrawK.meet ⟨136, [(3, .pb 0 0), (4, .pb 1 0), (7, .pb 3 0), (10, .pb 4 0), (11, vi 0), (12, .pb 5 0), (13, vi 0), (15, vi 17)], [deckA l s4, [vi m.kind, .sl 0 1 (m.states.map vStr), .sl 0 1 (m.places.map vStr), .sl 0 1 (m.letters.map vStr), vs 0 m.ranks, vi m.levels, vi m.age, .sl 0 14 (m.rules.map vRule), vi m.start.n, .sl 0 2 (m.start.kids.map vV)], [vi (typeM m).kind, vi (typeM m).size, vs 0 (typeM m).ranks, .sl 0 4 ((typeM m).parts.map vT)], [vi c.n, .sl 0 2 (c.kids.map vV)], [vi c.n, .sl 0 2 (c.kids.map vV)], [vi 0, .sl 0 2 (.ag [vi j, .sl 0 2 []] :: (c.kids.drop 1).map vV)], [.any, .any]]⟩ ?_ ?_
 ·refine DrawK.news0 [(11, 6)] [2] [] 0 [] [] 12 (.one 12 (.one 13 .done)) (some (10, .alt (.one 10 (.one 12 (.one 13 .done))) (.one 12 (.one 10 (.one 13 .done))))) (deckA l s4) mixed (by kernel_rfl) (by kernel_rfl) (by kernel_rfl) (by simp only [go_sem]) (by simp only [go_sem]) ⟨by simp only [go_sem], by simp only [go_sem]⟩ ⟨by simp only [go_sem], by simp only [go_sem]⟩ ?_
  simp only [go_sem, List.length_map, eD]
  refine ⟨hk1, Nat.le_refl _, CallY.mk hP3 (by simp only [go_sem]) (by simp only [go_sem]) (.inl (by simp only [go_sem])) ?_⟩
  simp only [go_sem, hrep]
  repeat' (first | with_reducible apply andK_mk | exact trivial | simp only [go_sem, eW, eWn, eV, eN, List.map_cons, List.map_nil])
 simp only [go_sem]
 refine DrawK.walk 24 mixed (by kernel_rfl) ?_
 have hself := con_rsameV c c hsl.ok hsl.ok
 rw [cmpV_self, vV_eq] at hself
 have hall := con_rsameAllV (c.kids.drop 1) (by omega) fun x hx => ⟨(hRs x hx).ok, cmpV_self x⟩
 unfold vrow at hall
 simp only [go_sem]
 refine CallY.mk hself (by simp only [go_sem]) (by simp only [go_sem]) (.inl (by simp only [go_sem])) ?_
 have eD2 : List.drop 1 (List.take (c.kids.length - 1 + 1) (.ag [vi j, .sl 0 2 []] :: (c.kids.drop 1).map vV)) = (c.kids.drop 1).map vV := by rw [List.take_of_length_le (by simp)]; rfl
 simp only [go_sem, List.length_map, List.length_cons, List.length_drop, eD]
 have eT : List.take (c.kids.length - 1) ((c.kids.drop 1).map vV) = (c.kids.drop 1).map vV := List.take_of_length_le (by simp)
 rw [eT]
 refine ⟨Nat.le_refl _, hk1, Nat.le_refl _, CallY.mk hall (by simp only [go_sem]) (by simp only [go_sem]) (.inl (by simp only [go_sem])) ?_⟩
 simp only [go_sem]
end Go.AM

/-! ## Closed1T -/
namespace Go.Proofs.YtpmodjodfimejaaGreat
open Go.ChangeShapes Go.WideShapes Go.ChangeAt Go.RowKit Go.AM
theorem and_mk {a b : Bool} (h1 : a = true) (h2 : b = true) : (a && b) = true := by rw [h1, h2]; rfl
theorem cLaid : laidOutB Tryz.prog = true := by kernel_rfl
theorem cRowed : mapsRowed Tryz.prog = true := by kernel_rfl
theorem cHeard : Tryz.prog.stopsHeard = true := by kernel_rfl
theorem cEnter : Tryz.prog.mayEnter = true := by kernel_rfl
theorem cLifts : (Rows.modelConfigsRow.lifted == Tryz.prog.liftsFinal) = true := by kernel_rfl
theorem modelConfigsC0 : (Rows.modelConfigsRow.wf (OpenSpec.ofChange Rows.modelConfigsSpec)) = true := by kernel_rfl
theorem modelConfigsC3 : (Tryz.f4.params.all (Tryz.prog.readableRec ·)) = true := by kernel_rfl
theorem modelConfigsC4 : (namedTie Tryz.prog Rows.modelConfigsRow.named Rows.modelConfigsSpec.vars) = true := by kernel_rfl
theorem modelConfigsC5 : ((Rows.modelConfigsRow.stops == [])) = true := by kernel_rfl
theorem modelConfigsC6 : ((Tryz.prog.stops == [])) = true := by kernel_rfl
theorem modelConfigsC7 : ((Rows.modelConfigsRow.knobs == [])) = true := by kernel_rfl
theorem modelConfigsC8 : ((Tryz.prog.stopKnobs == [])) = true := by kernel_rfl
theorem modelConfigsC9 : ((Rows.modelConfigsRow.inPlace == Tryz.prog.inPlace 4)) = true := by kernel_rfl
theorem modelConfigsC10 : ((Rows.modelConfigsRow.unfollowed == Tryz.prog.unfollowed 4)) = true := by kernel_rfl
theorem modelConfigsC11 : ((Rows.modelConfigsRow.recurses == Tryz.prog.recurses 4)) = true := by kernel_rfl
theorem modelConfigsC12 : ((Rows.modelConfigsRow.named == Tryz.prog.varsNamed 4)) = true := by kernel_rfl
theorem modelConfigsC13 : ((Rows.modelConfigsRow.maps == (Tryz.f4.params.toList ++ Rows.modelConfigsSpec.plain.varTypes Tryz.prog).any (Tryz.prog.mapsRec ·))) = true := by kernel_rfl
theorem modelConfigsC14 : ((Rows.modelConfigsRow.ifaces == (Tryz.f4.params.toList ++ Rows.modelConfigsSpec.plain.varTypes Tryz.prog).any (Tryz.prog.ifacesRec ·))) = true := by kernel_rfl
theorem modelConfigsC15 : ((Rows.modelConfigsRow.mapsOut == Tryz.prog.mapsAmong Tryz.f4.resultTypes.toList)) = true := by kernel_rfl
theorem modelConfigsC16 : ((Rows.modelConfigsRow.loops == (Tryz.f4.params.toList ++ Rows.modelConfigsSpec.plain.varTypes Tryz.prog).any (Tryz.prog.loopsFrom ·))) = true := by kernel_rfl
theorem modelConfigsC17 : ((Rows.modelConfigsRow.wideKeys == (Tryz.f4.params.toList ++ Rows.modelConfigsSpec.plain.varTypes Tryz.prog ++ Tryz.f4.resultTypes.toList).any (Tryz.prog.wideKeysFrom ·))) = true := by kernel_rfl
theorem modelConfigsC18 : (Rows.modelConfigsSpec.vars.all (Tryz.prog.varReadable ·)) = true := by kernel_rfl
theorem modelConfigsC19 : (Tryz.f4.resultTypes.all (fun t => Tryz.prog.readableRec t && decide (t < Tryz.prog.types.size))) = true := by kernel_rfl
theorem modelConfigsC20 : ((Rows.modelConfigsRow.ifacesOut == Tryz.f4.resultTypes.toList.any (Tryz.prog.ifacesRec ·))) = true := by kernel_rfl
theorem modelConfigsC21 : ((Rows.modelConfigsRow.loopsOut == Tryz.f4.resultTypes.toList.any (Tryz.prog.loopsFrom ·))) = true := by kernel_rfl
theorem modelConfigsC22 : ((Rows.modelConfigsRow.plainKeys == Tryz.prog.plainKeys)) = true := by kernel_rfl
theorem modelConfigsC23 : (Rows.modelConfigsRow.shortTexts.isNone) = true := by kernel_rfl
theorem modelConfigsC27 : ((Tryz.prog.make == some Rows.modelConfigsRow.make)) = true := by kernel_rfl
theorem modelConfigsC28 : ((Rows.modelConfigsRow.kinds == (if Rows.modelConfigsRow.domain.isEmpty then [] else Tryz.f4.params.toList.map fun t => match Tryz.prog.underlying t with | some (.int k) => some k | _ => none))) = true := by kernel_rfl
theorem modelConfigsC29 : ((Rows.modelConfigsRow.pinned == Rows.modelConfigsRow.pinnedBy)) = true := by kernel_rfl
theorem modelConfigsC30 : ((Rows.modelConfigsRow.veiled == (Tryz.f4.params.toList ++ Rows.modelConfigsSpec.plain.varTypes Tryz.prog ++ Tryz.f4.resultTypes.toList).any (Tryz.prog.veiledRec ·))) = true := by kernel_rfl
theorem modelConfigsC31 : (Rows.modelConfigsRow.veiledFits Tryz.prog Tryz.f4.params.toList (Tryz.f4.params.toList ++ Rows.modelConfigsSpec.plain.varTypes Tryz.prog ++ Tryz.f4.resultTypes.toList)) = true := by kernel_rfl
end Go.Proofs.YtpmodjodfimejaaGreat

/-! ## Closed1Tz -/
namespace Go.Proofs.YtpmodjodfimejaaGreat
open Go.ChangeShapes Go.WideShapes Go.ChangeAt Go.RowKit Go.AM
set_option maxRecDepth 100000
theorem modelConfigsClosed : joinedFacts Tryz.prog 4 Tryz.f4 Rows.modelConfigsSpec Rows.modelConfigsRow = true := by
 unfold joinedFacts
 exact and_mk (and_mk (and_mk (and_mk (and_mk (and_mk (and_mk (and_mk (and_mk (and_mk (and_mk (and_mk (and_mk (and_mk (and_mk (and_mk (and_mk (and_mk (and_mk (and_mk (and_mk (and_mk (and_mk (and_mk (and_mk (and_mk (and_mk (and_mk (and_mk (and_mk (and_mk modelConfigsC0 cLaid) cRowed) modelConfigsC3) modelConfigsC4) modelConfigsC5) modelConfigsC6) modelConfigsC7) modelConfigsC8) modelConfigsC9) modelConfigsC10) modelConfigsC11) modelConfigsC12) modelConfigsC13) modelConfigsC14) modelConfigsC15) modelConfigsC16) modelConfigsC17) modelConfigsC18) modelConfigsC19) modelConfigsC20) modelConfigsC21) modelConfigsC22) modelConfigsC23) cHeard) cEnter) cLifts) modelConfigsC27) modelConfigsC28) modelConfigsC29) modelConfigsC30) modelConfigsC31
theorem modelConfigsNamed : Tryz.prog.funcNamed Rows.modelConfigsRow.func = some 4 := by kernel_rfl
end Go.Proofs.YtpmodjodfimejaaGreat
