/-
  Walks: rules of models of other kinds that the deck deals.
  Walks: the value of a word.
  Walks: trees that the deck deals (Deck.Tree), values of trees (make.value).
-/
import Derived.Test.YtpmodjodfimejaaGreatg25
import Derived.Test.YtpmodjodfimejaaGreatg19
import Derived.Test.YtpmodjodfimejaaGreatg23
/-! ## HU -/
namespace Go.AM
open Go Go.Proofs Go.RowKit
set_option maxRecDepth 100000
set_option maxHeartbeats 8000000
theorem same_refl (r : RD) : sameB r r = true := by unfold sameB; simp
theorem right_mk {m : MD} {r : RD} (h1 : endsR m r = true) (h2 : fitsR m r = true) (h3 : onlyR m.kind r = r) : rightR m r = true := by
 unfold rightR
 rw [h1, h2, h3, same_refl]; rfl
theorem index_ok {x : Int} {n : Nat} (h : 0 ≤ x ∧ x < n) : indexB x n = true := by unfold indexB; rw [decide_eq_true h.1, decide_eq_true h.2]; rfl
theorem ends_mk {m : MD} {r : RD} (h1 : 0 ≤ r.dst ∧ r.dst < m.states.length) (h2 : 0 ≤ r.src ∧ r.src < m.states.length) : endsR m r = true := by
 unfold endsR
 rw [index_ok h1, index_ok h2]; rfl
def DealtX (m : MD) (x : RD) : Prop := rightR m x = true ∧ x.name = emptyB ∧ LenR x
def RuleCon (l : List Int) (s : DS) (m : MD) : Prop :=
 Con Tryz.prog 61 [.pb 0 0, hidA m] [deckA l s] fun r b => ∃ (x : RD) (s' : DS), DealtX m x ∧ Dk l s' ∧ r = vRule x ∧ b = [deckA l s']
theorem RuleCon.mk {l : List Int} {s : DS} {m : MD} (h : Con Tryz.prog 61 [.pb 0 0, hidA m] [deckA l s] fun r b => ∃ (x : RD) (s' : DS), DealtX m x ∧ Dk l s' ∧ leV (r.freeze fun _ => true) (vRule x) ∧ b = [deckA l s']) : RuleCon l s m :=
 (h.freezeB fun _ => true).weak fun r b ⟨r1, b1, ⟨x, s', h1, h2, h3, h4⟩, h7, h8⟩ => by
  subst h4; subst h7; subst h8
  exact ⟨vRule x, ⟨x, s', h1, h2, rfl, rfl⟩, h3⟩
theorem con_dWordF (l : List Int) (s : DS) (letters most : Int) (h : Dk l s) (h1 : 0 ≤ letters ∧ letters ≤ 1000000) (h2 : 0 ≤ most ∧ most ≤ 1000) : Con Tryz.prog 48 [.pb 0 0, vi letters, vi most] [deckA l s]
  fun r b => r = vs 0 (wdV l s letters most) ∧ b = [deckA l (wdS l s letters most)] :=
 ((con_dWord l s letters most h h1 h2).freezeB fun _ => true).mono fun r b ⟨r1, b1, ⟨h1, h2⟩, h3, h4⟩ => by
  subst h1; subst h2; subst h3; subst h4
  exact ⟨rfl, rfl⟩
theorem wdV_low {l : List Int} {s : DS} {letters most : Int} (h1 : 1 ≤ letters) : ∀ x ∈ wdV l s letters most, 0 ≤ x ∧ x < letters := fun x hx => by
 unfold wdV at hx
 have := smV_low (l := l) (most := letters - 1) (by omega) _ x hx
 omega
theorem wdV_len {l : List Int} {s : DS} {letters most : Int} (h : 0 ≤ most) : ((wdV l s letters most).length : Int) ≤ most := by
 have := (wdN_le (l := l) (s := s) h).2
 unfold wdV
 rw [smV_len]; exact this
def chanRow : List Nat := [0, 1, 2, 8, 3, 4, 5, 6, 7, 9, 10, 11]
def pathRow : List Nat := [0, 1, 2, 3, 4, 5, 6, 14, 7, 8, 9, 10, 11, 12, 13, 15, 16, 17]
def branchRow : List Nat := [0, 1, 5, 2, 3, 4, 6, 7, 8, 9, 10]
def chanR (src dst ch act le : Int) : RD := ⟨emptyB, src, dst, [], [], [], ch, act, le, [], [], [], [], 0⟩
def pathR (src dst : Int) (p q : List Int) : RD := ⟨emptyB, src, dst, [], [], [], 0, 0, 0, p, q, [], [], 0⟩
def timeR (src dst : Int) (t : List (Int × Int × Int)) (k : List Int) : RD := ⟨emptyB, src, dst, [], [], [], 0, 0, 0, [], [], t, k, 0⟩
def brR (src dst : Int) (n g : List Int) (sec : Int) : RD := ⟨emptyB, src, dst, n, g, [], 0, 0, 0, [], [], [], [], sec⟩
theorem len_chan (a b c d e : Int) : LenR (chanR a b c d e) := ⟨⟨by simp [chanR], by simp [chanR], by simp [chanR], by simp [chanR], by simp [chanR], by simp [chanR], by simp [chanR]⟩, by simp [chanR], by simp [chanR]⟩
def GoodT (np : Nat) (age : Int) (t : Int × Int × Int) : Prop := (0 ≤ t.1 ∧ t.1 < np) ∧ 0 ≤ t.2.1 ∧ t.2.1 ≤ t.2.2 ∧ t.2.2 ≤ age + 1
theorem time_dealt {m : MD} {src dst : Int} {L : List (Int × Int × Int)} {k : List Int} (hk : m.kind = 5) (h1 : 0 ≤ src ∧ src < m.states.length) (h2 : 0 ≤ dst ∧ dst < m.states.length) (hl : L.length ≤ 2) (hL : ∀ t ∈ L, GoodT m.places.length m.age t)
  (hK : k = [] ∨ ∃ y, k = [y] ∧ 0 ≤ y ∧ y < m.places.length) : DealtX m (timeR src dst L k) := by
 have hkl : k.length ≤ 1 := by rcases hK with rfl | ⟨y, rfl, _⟩ <;> simp
 have hasc : ascI k = true := by rcases hK with rfl | ⟨y, rfl, _⟩ <;> simp [ascI]
 have hall : k.all (fun x => indexB x m.places.length) = true := by
  rcases hK with rfl | ⟨y, rfl, h⟩
  ·rfl
  ·rw [List.all_cons, index_ok h]; rfl
 have hany : L.any (badTake m.places.length m.age) = false := by
  rw [List.any_eq_false]
  intro t ht
  have h := hL t ht
  unfold GoodT at h
  unfold badTake
  rw [index_ok h.1, decide_eq_false (by omega), decide_eq_false (by omega), decide_eq_false (by omega)]; decide
 refine ⟨right_mk (ends_mk h2 h1) ?_ (by rw [hk]; rfl), rfl, ⟨⟨by simp [timeR], by simp [timeR], by simp [timeR], by simp [timeR], by simp [timeR], by show L.length ≤ _; omega, by show k.length ≤ _; omega⟩, by simp [timeR], by simp [timeR]⟩⟩
 unfold fitsR agesB
 rw [if_neg (by omega), if_neg (by omega), if_neg (by omega), if_pos hk]
 show (decide (L.length ≤ 3) && decide (k.length ≤ 3) && ascI k && k.all (fun x => indexB x m.places.length) && !L.any (badTake m.places.length m.age)) = true
 rw [hasc, hall, hany, decide_eq_true (by omega), decide_eq_true (by omega)]; rfl
theorem time_le (src dst : Int) {L : List (Int × Int × Int)} {k : List Int} {x : AV} (h : leV x (vs 0 k)) : leV (.ag [vStr emptyB, vi src, vi dst, .nil, .nil, .nil, vi 0, vi 0, vi 0, .nil, .nil, .sl 0 3 (L.map vTake), x, vi 0]) (vRule (timeR src dst L k)) :=
 leV_ag ⟨leV_refl _, leV_refl _, leV_refl _, leV_nil _ _, leV_nil _ _, leV_nil _ _, leV_refl _, leV_refl _, leV_refl _, leV_nil _ _, leV_nil _ _, leV_refl _, h, leV_refl _, trivial⟩
theorem con_dRule2 (l : List Int) (s : DS) (m : MD) (hd : Dk l s) (hk : m.kind = 2) (hp : 1 ≤ m.places.length ∧ m.places.length ≤ 6) (hl : 1 ≤ m.letters.length ∧ m.letters.length ≤ 6) (h1 : 1 ≤ m.states.length ∧ m.states.length ≤ 8) : RuleCon l s m := by
 refine RuleCon.mk ?_
 refine Con.intro Tryz.func61 rfl Tryz.ntmps61 Tryz.results61 (by kernel_rfl) (by simp) 1 (by simp) ?_
 have hn1 := nextV_lt (l := l) (s := s) (n := m.states.length) (by omega)
 have hd2 : Dk l (nextS l s m.states.length) := nextS_dk hd
 have hn2 := nextV_lt (l := l) (s := nextS l s m.states.length) (n := m.states.length) (by omega)
 have hd3 : Dk l (nextS l (nextS l s m.states.length) m.states.length) := nextS_dk hd2
 simp only [go_sem, hk]
 refine DrawK.news0 [(11, 3)] [14] [] 0 [4, 9] [] 12 (.one 12 .done) none (deckA l s) mixed (by kernel_rfl) (by kernel_rfl) (by kernel_rfl) (by simp only [go_sem]) (by simp only [go_sem]) ⟨by simp only [go_sem], by simp only [go_sem]⟩ ⟨by simp only [go_sem], by simp only [go_sem]⟩ ?_
 simp only [go_sem, List.length_map]
 refine EffK.mk (con_dNext l s m.states.length hd) (by simp only [go_sem]) (by simp only [go_sem]) (by simp only [go_sem]) (by simp only [go_sem]) ?_
 simp only [go_sem, List.length_map]
 refine EffK.mk (con_dNext l (nextS l s m.states.length) m.states.length hd2) (by simp only [go_sem]) (by simp only [go_sem]) (by simp only [go_sem]) (by simp only [go_sem]) ?_
 generalize nextV l s m.states.length = src at hn1
 generalize nextV l (nextS l s m.states.length) m.states.length = dst at hn2
 generalize nextS l (nextS l s m.states.length) m.states.length = s2 at hd3
 have hrep : List.replicate 14 AV.any = [.any, .any, .any, .any, .any, .any, .any, .any, .any, .any, .any, .any, .any, .any] := rfl
 simp only [go_sem, hrep]
 refine ⟨?_, trivial⟩
 have hx0 := nextV_lt (l := l) (s := s2) (n := 3) (by omega)
 have hd4 : Dk l (nextS l s2 3) := nextS_dk hd3
 refine CallU.boxes (i := 0) (is := []) (bx0 := [deckA l s2]) (con_dNext l s2 3 hd3) (by simp only [go_sem]) (by simp only [go_sem]) (by simp only [go_sem]) (by simp only [go_sem]) (by simp only [go_sem]) ?_
 rintro r b ⟨rfl, rfl⟩
 generalize nextV l s2 3 = act at hx0
 generalize nextS l s2 3 = s3 at hd4
 by_cases h0 : act = 0
 ·have hb : (act != 0) = false := by rw [h0]; rfl
  simp only [go_sem, hb]
  refine ⟨chanR src dst 0 act 0, s3, ⟨right_mk (ends_mk hn2 hn1) ?_ (by rw [hk]; rfl), rfl, len_chan ..⟩, hd4, ?_, rfl⟩
  ·unfold fitsR actsB
   rw [if_neg (by omega), if_pos (by omega), if_pos (show (chanR src dst 0 act 0).act = 0 from h0)]; rfl
  ·exact leV_ag ⟨leV_refl _, leV_refl _, leV_refl _, leV_nil _ _, leV_nil _ _, leV_nil _ _, leV_refl _, leV_refl _, leV_refl _, leV_nil _ _, leV_nil _ _, leV_nil _ _, leV_nil _ _, leV_refl _, trivial⟩
 have hb : (act != 0) = true := bne_iff_ne.2 h0
 have hx1 := nextV_lt (l := l) (s := s3) (n := m.places.length) (by omega)
 have hd5 : Dk l (nextS l s3 m.places.length) := nextS_dk hd4
 have hx2 := nextV_lt (l := l) (s := nextS l s3 m.places.length) (n := m.letters.length) (by omega)
 have hd6 : Dk l (nextS l (nextS l s3 m.places.length) m.letters.length) := nextS_dk hd5
 simp only [go_sem, hb]
 refine DrawK.effs chanRow 0 [2, 8] [] 9 (.one 9 (.front 10 (.one 11 .done))) none (deckA l s3) mixed (by kernel_rfl) (by simp only [chanRow, permG, renO, List.getElem?_cons_zero, List.getElem?_cons_succ, Option.map_none]; exact rfl) (by kernel_rfl) (by kernel_rfl) (by simp only [go_sem]) (by simp only [go_sem]) ?_
 simp only [go_sem]
 refine EffK.mk (con_dNext l s3 m.places.length hd4) (by simp only [go_sem]) (by simp only [go_sem]) (by simp only [go_sem]) (by simp only [go_sem]) ?_
 simp only [go_sem, List.length_map]
 refine EffK.mk (con_dNext l (nextS l s3 m.places.length) m.letters.length hd5) (by simp only [go_sem]) (by simp only [go_sem]) (by simp only [go_sem]) (by simp only [go_sem]) ?_
 generalize nextV l (nextS l s3 m.places.length) m.letters.length = le at hx2
 generalize nextS l (nextS l s3 m.places.length) m.letters.length = s4 at hd6
 generalize nextV l s3 m.places.length = ch at hx1
 simp only [go_sem]
 refine ⟨⟨chanR src dst ch act le, s4, ⟨right_mk (ends_mk hn2 hn1) ?_ (by rw [hk]; rfl), rfl, len_chan ..⟩, hd6, ?_, rfl⟩, trivial⟩
 ·unfold fitsR actsB
  rw [if_neg (by omega), if_pos (by omega), if_neg (show ¬ (chanR src dst ch act le).act = 0 from h0)]
  have a1 : betweenB (chanR src dst ch act le).act 1 2 = true := by
   show betweenB act 1 2 = true
   unfold betweenB
   rw [decide_eq_true (show 1 ≤ act by omega), decide_eq_true (show act ≤ 2 by omega)]; rfl
  rw [a1, show indexB (chanR src dst ch act le).channel m.places.length = true from index_ok hx1, show indexB (chanR src dst ch act le).letter m.letters.length = true from index_ok hx2]; rfl
 ·exact leV_ag ⟨leV_refl _, leV_refl _, leV_refl _, leV_nil _ _, leV_nil _ _, leV_nil _ _, leV_refl _, leV_refl _, leV_refl _, leV_nil _ _, leV_nil _ _, leV_nil _ _, leV_nil _ _, leV_refl _, trivial⟩
theorem con_dRule3 (l : List Int) (s : DS) (m : MD) (hd : Dk l s) (hk : m.kind = 3) (hp : 1 ≤ m.places.length ∧ m.places.length ≤ 6) (hl : 1 ≤ m.letters.length ∧ m.letters.length ≤ 6) (h1 : 1 ≤ m.states.length ∧ m.states.length ≤ 8) : RuleCon l s m := by
 refine RuleCon.mk ?_
 refine Con.intro Tryz.func61 rfl Tryz.ntmps61 Tryz.results61 (by kernel_rfl) (by simp) 1 (by simp) ?_
 have hn1 := nextV_lt (l := l) (s := s) (n := m.states.length) (by omega)
 have hd2 : Dk l (nextS l s m.states.length) := nextS_dk hd
 have hn2 := nextV_lt (l := l) (s := nextS l s m.states.length) (n := m.states.length) (by omega)
 have hd3 : Dk l (nextS l (nextS l s m.states.length) m.states.length) := nextS_dk hd2
 simp only [go_sem, hk]
 refine DrawK.news0 [(11, 3)] [14] [] 0 [4, 9] [] 12 (.one 12 .done) none (deckA l s) mixed (by kernel_rfl) (by kernel_rfl) (by kernel_rfl) (by simp only [go_sem]) (by simp only [go_sem]) ⟨by simp only [go_sem], by simp only [go_sem]⟩ ⟨by simp only [go_sem], by simp only [go_sem]⟩ ?_
 simp only [go_sem, List.length_map]
 refine EffK.mk (con_dNext l s m.states.length hd) (by simp only [go_sem]) (by simp only [go_sem]) (by simp only [go_sem]) (by simp only [go_sem]) ?_
 simp only [go_sem, List.length_map]
 refine EffK.mk (con_dNext l (nextS l s m.states.length) m.states.length hd2) (by simp only [go_sem]) (by simp only [go_sem]) (by simp only [go_sem]) (by simp only [go_sem]) ?_
 generalize nextV l s m.states.length = src at hn1
 generalize nextV l (nextS l s m.states.length) m.states.length = dst at hn2
 generalize nextS l (nextS l s m.states.length) m.states.length = s2 at hd3
 have hrep : List.replicate 14 AV.any = [.any, .any, .any, .any, .any, .any, .any, .any, .any, .any, .any, .any, .any, .any] := rfl
 simp only [go_sem, hrep]
 refine ⟨?_, trivial⟩
 have hx0 := nextV_lt (l := l) (s := s2) (n := 3) (by omega)
 have hd4 : Dk l (nextS l s2 3) := nextS_dk hd3
 refine CallU.boxes (i := 0) (is := []) (bx0 := [deckA l s2]) (con_dNext l s2 3 hd3) (by simp only [go_sem]) (by simp only [go_sem]) (by simp only [go_sem]) (by simp only [go_sem]) (by simp only [go_sem]) ?_
 rintro r b ⟨rfl, rfl⟩
 generalize nextV l s2 3 = act at hx0
 generalize nextS l s2 3 = s3 at hd4
 by_cases h0 : act = 0
 ·have hb : (act != 0) = false := by rw [h0]; rfl
  simp only [go_sem, hb]
  refine ⟨chanR src dst 0 act 0, s3, ⟨right_mk (ends_mk hn2 hn1) ?_ (by rw [hk]; rfl), rfl, len_chan ..⟩, hd4, ?_, rfl⟩
  ·unfold fitsR actsB
   rw [if_neg (by omega), if_pos (by omega), if_pos (show (chanR src dst 0 act 0).act = 0 from h0)]; rfl
  ·exact leV_ag ⟨leV_refl _, leV_refl _, leV_refl _, leV_nil _ _, leV_nil _ _, leV_nil _ _, leV_refl _, leV_refl _, leV_refl _, leV_nil _ _, leV_nil _ _, leV_nil _ _, leV_nil _ _, leV_refl _, trivial⟩
 have hb : (act != 0) = true := bne_iff_ne.2 h0
 have hx1 := nextV_lt (l := l) (s := s3) (n := m.places.length) (by omega)
 have hd5 : Dk l (nextS l s3 m.places.length) := nextS_dk hd4
 have hx2 := nextV_lt (l := l) (s := nextS l s3 m.places.length) (n := m.letters.length) (by omega)
 have hd6 : Dk l (nextS l (nextS l s3 m.places.length) m.letters.length) := nextS_dk hd5
 simp only [go_sem, hb]
 refine DrawK.effs chanRow 0 [2, 8] [] 9 (.one 9 (.front 10 (.one 11 .done))) none (deckA l s3) mixed (by kernel_rfl) (by simp only [chanRow, permG, renO, List.getElem?_cons_zero, List.getElem?_cons_succ, Option.map_none]; exact rfl) (by kernel_rfl) (by kernel_rfl) (by simp only [go_sem]) (by simp only [go_sem]) ?_
 simp only [go_sem]
 refine EffK.mk (con_dNext l s3 m.places.length hd4) (by simp only [go_sem]) (by simp only [go_sem]) (by simp only [go_sem]) (by simp only [go_sem]) ?_
 simp only [go_sem, List.length_map]
 refine EffK.mk (con_dNext l (nextS l s3 m.places.length) m.letters.length hd5) (by simp only [go_sem]) (by simp only [go_sem]) (by simp only [go_sem]) (by simp only [go_sem]) ?_
 generalize nextV l (nextS l s3 m.places.length) m.letters.length = le at hx2
 generalize nextS l (nextS l s3 m.places.length) m.letters.length = s4 at hd6
 generalize nextV l s3 m.places.length = ch at hx1
 simp only [go_sem]
 refine ⟨⟨chanR src dst ch act le, s4, ⟨right_mk (ends_mk hn2 hn1) ?_ (by rw [hk]; rfl), rfl, len_chan ..⟩, hd6, ?_, rfl⟩, trivial⟩
 ·unfold fitsR actsB
  rw [if_neg (by omega), if_pos (by omega), if_neg (show ¬ (chanR src dst ch act le).act = 0 from h0)]
  have a1 : betweenB (chanR src dst ch act le).act 1 2 = true := by
   show betweenB act 1 2 = true
   unfold betweenB
   rw [decide_eq_true (show 1 ≤ act by omega), decide_eq_true (show act ≤ 2 by omega)]; rfl
  rw [a1, show indexB (chanR src dst ch act le).channel m.places.length = true from index_ok hx1, show indexB (chanR src dst ch act le).letter m.letters.length = true from index_ok hx2]; rfl
 ·exact leV_ag ⟨leV_refl _, leV_refl _, leV_refl _, leV_nil _ _, leV_nil _ _, leV_nil _ _, leV_refl _, leV_refl _, leV_refl _, leV_nil _ _, leV_nil _ _, leV_nil _ _, leV_nil _ _, leV_refl _, trivial⟩
theorem con_dRule4 (l : List Int) (s : DS) (m : MD) (hd : Dk l s) (hk : m.kind = 4) (hl : 1 ≤ m.letters.length ∧ m.letters.length ≤ 6) (hv : 1 ≤ m.levels ∧ m.levels ≤ 2) (h1 : 1 ≤ m.states.length ∧ m.states.length ≤ 8) : RuleCon l s m := by
 refine RuleCon.mk ?_
 refine Con.intro Tryz.func61 rfl Tryz.ntmps61 Tryz.results61 (by kernel_rfl) (by simp) 1 (by simp) ?_
 have hn1 := nextV_lt (l := l) (s := s) (n := m.states.length) (by omega)
 have hd2 : Dk l (nextS l s m.states.length) := nextS_dk hd
 have hn2 := nextV_lt (l := l) (s := nextS l s m.states.length) (n := m.states.length) (by omega)
 have hd3 : Dk l (nextS l (nextS l s m.states.length) m.states.length) := nextS_dk hd2
 simp only [go_sem, hk]
 refine DrawK.news0 [(11, 3)] [14] [] 0 [4, 9] [] 12 (.one 12 .done) none (deckA l s) mixed (by kernel_rfl) (by kernel_rfl) (by kernel_rfl) (by simp only [go_sem]) (by simp only [go_sem]) ⟨by simp only [go_sem], by simp only [go_sem]⟩ ⟨by simp only [go_sem], by simp only [go_sem]⟩ ?_
 simp only [go_sem, List.length_map]
 refine EffK.mk (con_dNext l s m.states.length hd) (by simp only [go_sem]) (by simp only [go_sem]) (by simp only [go_sem]) (by simp only [go_sem]) ?_
 simp only [go_sem, List.length_map]
 refine EffK.mk (con_dNext l (nextS l s m.states.length) m.states.length hd2) (by simp only [go_sem]) (by simp only [go_sem]) (by simp only [go_sem]) (by simp only [go_sem]) ?_
 generalize nextV l s m.states.length = src at hn1
 generalize nextV l (nextS l s m.states.length) m.states.length = dst at hn2
 generalize nextS l (nextS l s m.states.length) m.states.length = s2 at hd3
 have hrep : List.replicate 14 AV.any = [.any, .any, .any, .any, .any, .any, .any, .any, .any, .any, .any, .any, .any, .any] := rfl
 simp only [go_sem, hrep]
 refine ⟨?_, trivial⟩
 have hw1 := wdV_low (l := l) (s := s2) (letters := m.letters.length) (most := m.levels) (by omega)
 have hw2 := wdV_len (l := l) (s := s2) (letters := m.letters.length) (most := m.levels) (by omega)
 have hd4 : Dk l (wdS l s2 m.letters.length m.levels) := wdS_dk hd3
 have hw3 := wdV_low (l := l) (s := wdS l s2 m.letters.length m.levels) (letters := m.letters.length) (most := m.levels) (by omega)
 have hw4 := wdV_len (l := l) (s := wdS l s2 m.letters.length m.levels) (letters := m.letters.length) (most := m.levels) (by omega)
 have hd5 : Dk l (wdS l (wdS l s2 m.letters.length m.levels) m.letters.length m.levels) := wdS_dk hd4
 refine DrawK.effs pathRow 0 [6, 14] [] 15 (.one 15 (.front 16 (.one 17 .done))) none (deckA l s2) mixed (by kernel_rfl) (by simp only [pathRow, permG, renO, List.getElem?_cons_zero, List.getElem?_cons_succ, Option.map_none]; exact rfl) (by kernel_rfl) (by kernel_rfl) (by simp only [go_sem]) (by simp only [go_sem]) ?_
 simp only [go_sem, List.length_map]
 refine EffK.mk (con_dWordF l s2 m.letters.length m.levels hd3 (by omega) (by omega)) (by simp only [go_sem]) (by simp only [go_sem]) (by simp only [go_sem]) (by simp only [go_sem]) ?_
 simp only [go_sem, List.length_map]
 refine EffK.mk (con_dWordF l (wdS l s2 m.letters.length m.levels) m.letters.length m.levels hd4 (by omega) (by omega)) (by simp only [go_sem]) (by simp only [go_sem]) (by simp only [go_sem]) (by simp only [go_sem]) ?_
 generalize wdV l (wdS l s2 m.letters.length m.levels) m.letters.length m.levels = q at hw3 hw4
 generalize wdS l (wdS l s2 m.letters.length m.levels) m.letters.length m.levels = s4 at hd5
 generalize wdV l s2 m.letters.length m.levels = p at hw1 hw2
 have hwl : IntKind.i64.wrap ((p.length : Int) + (q.length : Int)) = (p.length : Int) + (q.length : Int) := wrap_in (by omega) (by omega)
 have hlen : ∀ q' : List Int, q'.length ≤ 100 → LenR (pathR src dst p q') := fun q' hq' => ⟨⟨by simp [pathR], by simp [pathR], by simp [pathR], by show p.length ≤ _; omega, by show q'.length ≤ _; omega, by simp [pathR], by simp [pathR]⟩, by show p.length ≤ _; omega, by show q'.length ≤ _; omega⟩
 have hfit : ∀ q' : List Int, (q'.length : Int) ≤ m.levels → 0 < p.length + q'.length → (∀ x ∈ q', 0 ≤ x ∧ x < (m.letters.length : Int)) → fitsR m (pathR src dst p q') = true := fun q' h3 h4 h5 => by
  unfold fitsR pathsB
  rw [if_neg (by omega), if_neg (by omega), if_pos hk]
  simp only [Bool.and_eq_true, decide_eq_true_eq, List.all_eq_true]
  exact ⟨⟨⟨⟨hw2, h3⟩, h4⟩, fun x hx => index_ok (hw1 x hx)⟩, fun x hx => index_ok (h5 x hx)⟩
 have hle : ∀ q' : List Int, leV (.ag [vStr emptyB, vi src, vi dst, .nil, .nil, .nil, vi 0, vi 0, vi 0, vs 0 p, vs 0 q', .nil, .nil, vi 0]) (vRule (pathR src dst p q')) := fun q' =>
  leV_ag ⟨leV_refl _, leV_refl _, leV_refl _, leV_nil _ _, leV_nil _ _, leV_nil _ _, leV_refl _, leV_refl _, leV_refl _, leV_refl _, leV_refl _, leV_nil _ _, leV_nil _ _, leV_refl _, trivial⟩
 simp only [go_sem, hwl]
 refine ⟨?_, trivial⟩
 by_cases h0 : (p.length : Int) + (q.length : Int) = 0
 ·have hb : ((p.length : Int) + (q.length : Int) == 0) = true := beq_iff_eq.2 h0
  simp only [go_sem, hb]
  exact ⟨pathR src dst p [0], s4, ⟨right_mk (ends_mk hn2 hn1) (hfit [0] (by show ((1 : Nat) : Int) ≤ _; omega) (by show 0 < p.length + 1; omega) fun x hx => by rw [List.mem_singleton] at hx; subst hx; omega) (by rw [hk]; rfl), rfl, hlen _ (by simp)⟩, hd5, hle [0], rfl⟩
 ·have hb : ((p.length : Int) + (q.length : Int) == 0) = false := beq_eq_false_iff_ne.2 h0
  simp only [go_sem, hb]
  exact ⟨pathR src dst p q, s4, ⟨right_mk (ends_mk hn2 hn1) (hfit q hw4 (by omega) hw3) (by rw [hk]; rfl), rfl, hlen _ (by omega)⟩, hd5, hle q, rfl⟩
theorem con_dRule5 (l : List Int) (s : DS) (m : MD) (hd : Dk l s) (hk : m.kind = 5) (hp : 1 ≤ m.places.length ∧ m.places.length ≤ 6) (ha : 0 ≤ m.age ∧ m.age ≤ 3) (h1 : 1 ≤ m.states.length ∧ m.states.length ≤ 8) : RuleCon l s m := by
 refine RuleCon.mk ?_
 refine Con.intro Tryz.func61 rfl Tryz.ntmps61 Tryz.results61 (by kernel_rfl) (by simp) 1 (by simp) ?_
 have hn1 := nextV_lt (l := l) (s := s) (n := m.states.length) (by omega)
 have hd2 : Dk l (nextS l s m.states.length) := nextS_dk hd
 have hn2 := nextV_lt (l := l) (s := nextS l s m.states.length) (n := m.states.length) (by omega)
 have hd3 : Dk l (nextS l (nextS l s m.states.length) m.states.length) := nextS_dk hd2
 simp only [go_sem, hk]
 refine DrawK.news0 [(11, 3)] [14] [] 0 [4, 9] [] 12 (.one 12 .done) none (deckA l s) mixed (by kernel_rfl) (by kernel_rfl) (by kernel_rfl) (by simp only [go_sem]) (by simp only [go_sem]) ⟨by simp only [go_sem], by simp only [go_sem]⟩ ⟨by simp only [go_sem], by simp only [go_sem]⟩ ?_
 simp only [go_sem, List.length_map]
 refine EffK.mk (con_dNext l s m.states.length hd) (by simp only [go_sem]) (by simp only [go_sem]) (by simp only [go_sem]) (by simp only [go_sem]) ?_
 simp only [go_sem, List.length_map]
 refine EffK.mk (con_dNext l (nextS l s m.states.length) m.states.length hd2) (by simp only [go_sem]) (by simp only [go_sem]) (by simp only [go_sem]) (by simp only [go_sem]) ?_
 generalize nextV l s m.states.length = src at hn1
 generalize nextV l (nextS l s m.states.length) m.states.length = dst at hn2
 generalize nextS l (nextS l s m.states.length) m.states.length = s2 at hd3
 have hrep : List.replicate 14 AV.any = [.any, .any, .any, .any, .any, .any, .any, .any, .any, .any, .any, .any, .any, .any] := rfl
 simp only [go_sem, hrep]
 refine ⟨?_, trivial⟩
 have hx0 := nextV_lt (l := l) (s := s2) (n := 2) (by omega)
 have hd4 : Dk l (nextS l s2 2) := nextS_dk hd3
 refine CallU.boxes (i := 0) (is := []) (bx0 := [deckA l s2]) (con_dNext l s2 2 hd3) (by simp only [go_sem]) (by simp only [go_sem]) (by simp only [go_sem]) (by simp only [go_sem]) (by simp only [go_sem]) ?_
 rintro r b ⟨rfl, rfl⟩
 obtain ⟨tk, htk, htk2⟩ : ∃ tk : Nat, nextV l s2 2 = tk ∧ tk ≤ 1 := ⟨(nextV l s2 2).toNat, by omega, by omega⟩
 rw [htk]
 generalize nextS l s2 2 = s3 at hd4
 have hd5 : Dk l (nextS l s3 8) := nextS_dk hd4
 simp only [go_sem]
 refine CallU.boxes (i := 0) (is := []) (bx0 := [deckA l s3]) (con_dOne l s3 8 hd4) (by simp only [go_sem]) (by simp only [go_sem]) (by simp only [go_sem]) (by simp only [go_sem]) (by simp only [go_sem]) ?_
 rintro r b ⟨rfl, rfl⟩
 generalize nextS l s3 8 = s4 at hd5
 have h22 : (((2 : Nat) : Int)) = 2 := rfl
 cases ho : oneV l s3 8
 ·simp only [go_sem]
  refine LoopK.intro (fun p : List (Int × Int × Int) × DS × Nat => ⟨168, [(0, .pb 0 0), (3, .pb 1 0), (4, .pb 2 0), (5, .pb 3 0), (6, vi m.places.length), (8, vi p.2.2)], [deckA l p.2.1, [vi 5, vss m.states, vss m.places, vss m.letters, vs 0 m.ranks, vi m.levels, vi m.age, .any, .any, .any],
    [vStr emptyB, vi 0, vi 0, .nil, .nil, .nil, vi 0, vi 0, vi 0, .nil, .nil, .nil, .nil, vi 0], [vStr emptyB, vi src, vi dst, .nil, .nil, .nil, vi 0, vi 0, vi 0, .nil, .nil, .sl 8512 3 (p.1.map vTake), .nil, vi 0]]⟩)
   (fun p => p.2.2) (fun p => p.1.length + p.2.2 ≤ 2 ∧ Dk l p.2.1 ∧ ∀ t ∈ p.1, GoodT m.places.length m.age t) ([], s4, tk) ⟨by show 0 + tk ≤ 2; omega, hd5, fun t ht => by cases ht⟩ ?_ ?_
  ·simp only [go_sem, vss, emptyB, List.map_nil]
   all_goals exact leV_nil _ _
  rintro ⟨L, s5, k⟩ ⟨h3, h4, h5⟩
  simp only at h3 h4 h5
  by_cases h : 0 < k
  ·have hk0 : (0 : Int) < (k : Int) := by omega
   have hwa : IntKind.i64.wrap (m.age + 2) = m.age + 2 := wrap_in (by omega) (by omega)
   have hwk : IntKind.i64.wrap ((k : Int) - 1) = ((k - 1 : Nat) : Int) := by rw [wrap_in (by omega) (by omega)]; omega
   have hx1 := nextV_lt (l := l) (s := s5) (n := m.age + 2) (by omega)
   have hd6 : Dk l (nextS l s5 (m.age + 2)) := nextS_dk h4
   simp only [go_sem, hk0, hwa]
   refine CallU.boxes (i := 0) (is := []) (bx0 := [deckA l s5]) (con_dNext l s5 (m.age + 2) h4) (by simp only [go_sem]) (by simp only [go_sem]) (by simp only [go_sem]) (by simp only [go_sem]) (by simp only [go_sem]) ?_
   rintro r b ⟨rfl, rfl⟩
   generalize nextV l s5 (m.age + 2) = lo at hx1
   generalize nextS l s5 (m.age + 2) = s6 at hd6
   have hx2 := nextV_lt (l := l) (s := s6) (n := m.places.length) (by omega)
   have hd7 : Dk l (nextS l s6 m.places.length) := nextS_dk hd6
   have hx3 := nextV_lt (l := l) (s := nextS l s6 m.places.length) (n := m.age + 2 - lo) (by omega)
   have hd8 : Dk l (nextS l (nextS l s6 m.places.length) (m.age + 2 - lo)) := nextS_dk hd7
   have hwb : IntKind.i64.wrap (m.age + 2 - lo) = m.age + 2 - lo := wrap_in (by omega) (by omega)
   simp only [go_sem]
   refine DrawK.effs0 0 [4, 13] [] 17 (.one 17 (.front 18 (.one 19 .done))) none (deckA l s6) mixed (by kernel_rfl) (by kernel_rfl) (by simp only [go_sem]) (by simp only [go_sem]) ?_
   simp only [go_sem]
   refine EffK.mk (con_dNext l s6 m.places.length hd6) (by simp only [go_sem]) (by simp only [go_sem]) (by simp only [go_sem]) (by simp only [go_sem]) ?_
   simp only [go_sem, hwa, hwb]
   refine EffK.mk (con_dNext l (nextS l s6 m.places.length) (m.age + 2 - lo) hd7) (by simp only [go_sem]) (by simp only [go_sem]) (by simp only [go_sem]) (by simp only [go_sem]) ?_
   generalize nextV l (nextS l s6 m.places.length) (m.age + 2 - lo) = df at hx3
   generalize nextS l (nextS l s6 m.places.length) (m.age + 2 - lo) = s8 at hd8
   generalize nextV l s6 m.places.length = pl at hx2
   have hwc : IntKind.i64.wrap (lo + df) = lo + df := wrap_in (by omega) (by omega)
   simp only [go_sem, hwc, hwk]
   refine ⟨⟨by simp only [roomFor]; omega, roundK.intro (L ++ [(pl, lo, lo + df)], s8, k - 1) ⟨by rw [List.length_append]; show L.length + 1 + (k - 1) ≤ 2; omega, hd8, fun t ht => ?_⟩ (by show k - 1 < k; omega) ?_⟩, trivial⟩
   ·rcases List.mem_append.1 ht with ht | ht
    ·exact h5 t ht
    ·rw [List.mem_singleton] at ht
     subst ht
     exact ⟨hx2, by show 0 ≤ lo; omega, by show lo ≤ lo + df; omega, by show lo + df ≤ m.age + 1; omega⟩
   ·simp only [go_sem, List.map_append, List.map_cons, List.map_nil, vTake]
  ·have hk0 : ¬ (0 : Int) < (k : Int) := by omega
   have hd6 : Dk l (nextS l s5 2) := nextS_dk h4
   simp only [go_sem, hk0]
   refine CallU.boxes (i := 0) (is := []) (bx0 := [deckA l s5]) (con_dOne l s5 2 h4) (by simp only [go_sem]) (by simp only [go_sem]) (by simp only [go_sem]) (by simp only [go_sem]) (by simp only [go_sem]) ?_
   rintro r b ⟨rfl, rfl⟩
   generalize nextS l s5 2 = s6 at hd6
   cases ho2 : oneV l s5 2
   ·simp only [go_sem]
    exact ⟨timeR src dst L [], s6, time_dealt hk hn1 hn2 (by omega) h5 (.inl rfl), hd6, time_le src dst (leV_nil _ _), rfl⟩
   ·have hx1 := nextV_lt (l := l) (s := s6) (n := m.places.length) (by omega)
    have hd7 : Dk l (nextS l s6 m.places.length) := nextS_dk hd6
    simp only [go_sem]
    refine CallU.boxes (i := 0) (is := []) (bx0 := [deckA l s6]) (con_dNext l s6 m.places.length hd6) (by simp only [go_sem]) (by simp only [go_sem]) (by simp only [go_sem]) (by simp only [go_sem]) (by simp only [go_sem]) ?_
    rintro r b ⟨rfl, rfl⟩
    simp only [go_sem]
    exact ⟨timeR src dst L [nextV l s6 m.places.length], nextS l s6 m.places.length, time_dealt hk hn1 hn2 (by omega) h5 (.inr ⟨_, rfl, hx1⟩), hd7, time_le src dst (leV_refl _), rfl⟩
 ·simp only [go_sem]
  refine LoopK.intro (fun p : List (Int × Int × Int) × DS × Nat => ⟨168, [(0, .pb 0 0), (3, .pb 1 0), (4, .pb 2 0), (5, .pb 3 0), (6, vi m.places.length), (8, vi p.2.2)], [deckA l p.2.1, [vi 5, vss m.states, vss m.places, vss m.letters, vs 0 m.ranks, vi m.levels, vi m.age, .any, .any, .any],
    [vStr emptyB, vi 0, vi 0, .nil, .nil, .nil, vi 0, vi 0, vi 0, .nil, .nil, .nil, .nil, vi 0], [vStr emptyB, vi src, vi dst, .nil, .nil, .nil, vi 0, vi 0, vi 0, .nil, .nil, .sl 8512 3 (p.1.map vTake), .nil, vi 0]]⟩)
   (fun p => p.2.2) (fun p => p.1.length + p.2.2 ≤ 2 ∧ Dk l p.2.1 ∧ ∀ t ∈ p.1, GoodT m.places.length m.age t) ([], s4, 2) ⟨by show 0 + 2 ≤ 2; omega, hd5, fun t ht => by cases ht⟩ ?_ ?_
  ·simp only [go_sem, vss, emptyB, List.map_nil, h22]
   all_goals exact leV_nil _ _
  rintro ⟨L, s5, k⟩ ⟨h3, h4, h5⟩
  simp only at h3 h4 h5
  by_cases h : 0 < k
  ·have hk0 : (0 : Int) < (k : Int) := by omega
   have hwa : IntKind.i64.wrap (m.age + 2) = m.age + 2 := wrap_in (by omega) (by omega)
   have hwk : IntKind.i64.wrap ((k : Int) - 1) = ((k - 1 : Nat) : Int) := by rw [wrap_in (by omega) (by omega)]; omega
   have hx1 := nextV_lt (l := l) (s := s5) (n := m.age + 2) (by omega)
   have hd6 : Dk l (nextS l s5 (m.age + 2)) := nextS_dk h4
   simp only [go_sem, hk0, hwa]
   refine CallU.boxes (i := 0) (is := []) (bx0 := [deckA l s5]) (con_dNext l s5 (m.age + 2) h4) (by simp only [go_sem]) (by simp only [go_sem]) (by simp only [go_sem]) (by simp only [go_sem]) (by simp only [go_sem]) ?_
   rintro r b ⟨rfl, rfl⟩
   generalize nextV l s5 (m.age + 2) = lo at hx1
   generalize nextS l s5 (m.age + 2) = s6 at hd6
   have hx2 := nextV_lt (l := l) (s := s6) (n := m.places.length) (by omega)
   have hd7 : Dk l (nextS l s6 m.places.length) := nextS_dk hd6
   have hx3 := nextV_lt (l := l) (s := nextS l s6 m.places.length) (n := m.age + 2 - lo) (by omega)
   have hd8 : Dk l (nextS l (nextS l s6 m.places.length) (m.age + 2 - lo)) := nextS_dk hd7
   have hwb : IntKind.i64.wrap (m.age + 2 - lo) = m.age + 2 - lo := wrap_in (by omega) (by omega)
   simp only [go_sem]
   refine DrawK.effs0 0 [4, 13] [] 17 (.one 17 (.front 18 (.one 19 .done))) none (deckA l s6) mixed (by kernel_rfl) (by kernel_rfl) (by simp only [go_sem]) (by simp only [go_sem]) ?_
   simp only [go_sem]
   refine EffK.mk (con_dNext l s6 m.places.length hd6) (by simp only [go_sem]) (by simp only [go_sem]) (by simp only [go_sem]) (by simp only [go_sem]) ?_
   simp only [go_sem, hwa, hwb]
   refine EffK.mk (con_dNext l (nextS l s6 m.places.length) (m.age + 2 - lo) hd7) (by simp only [go_sem]) (by simp only [go_sem]) (by simp only [go_sem]) (by simp only [go_sem]) ?_
   generalize nextV l (nextS l s6 m.places.length) (m.age + 2 - lo) = df at hx3
   generalize nextS l (nextS l s6 m.places.length) (m.age + 2 - lo) = s8 at hd8
   generalize nextV l s6 m.places.length = pl at hx2
   have hwc : IntKind.i64.wrap (lo + df) = lo + df := wrap_in (by omega) (by omega)
   simp only [go_sem, hwc, hwk]
   refine ⟨⟨by simp only [roomFor]; omega, roundK.intro (L ++ [(pl, lo, lo + df)], s8, k - 1) ⟨by rw [List.length_append]; show L.length + 1 + (k - 1) ≤ 2; omega, hd8, fun t ht => ?_⟩ (by show k - 1 < k; omega) ?_⟩, trivial⟩
   ·rcases List.mem_append.1 ht with ht | ht
    ·exact h5 t ht
    ·rw [List.mem_singleton] at ht
     subst ht
     exact ⟨hx2, by show 0 ≤ lo; omega, by show lo ≤ lo + df; omega, by show lo + df ≤ m.age + 1; omega⟩
   ·simp only [go_sem, List.map_append, List.map_cons, List.map_nil, vTake]
  ·have hk0 : ¬ (0 : Int) < (k : Int) := by omega
   have hd6 : Dk l (nextS l s5 2) := nextS_dk h4
   simp only [go_sem, hk0]
   refine CallU.boxes (i := 0) (is := []) (bx0 := [deckA l s5]) (con_dOne l s5 2 h4) (by simp only [go_sem]) (by simp only [go_sem]) (by simp only [go_sem]) (by simp only [go_sem]) (by simp only [go_sem]) ?_
   rintro r b ⟨rfl, rfl⟩
   generalize nextS l s5 2 = s6 at hd6
   cases ho2 : oneV l s5 2
   ·simp only [go_sem]
    exact ⟨timeR src dst L [], s6, time_dealt hk hn1 hn2 (by omega) h5 (.inl rfl), hd6, time_le src dst (leV_nil _ _), rfl⟩
   ·have hx1 := nextV_lt (l := l) (s := s6) (n := m.places.length) (by omega)
    have hd7 : Dk l (nextS l s6 m.places.length) := nextS_dk hd6
    simp only [go_sem]
    refine CallU.boxes (i := 0) (is := []) (bx0 := [deckA l s6]) (con_dNext l s6 m.places.length hd6) (by simp only [go_sem]) (by simp only [go_sem]) (by simp only [go_sem]) (by simp only [go_sem]) (by simp only [go_sem]) ?_
    rintro r b ⟨rfl, rfl⟩
    simp only [go_sem]
    exact ⟨timeR src dst L [nextV l s6 m.places.length], nextS l s6 m.places.length, time_dealt hk hn1 hn2 (by omega) h5 (.inr ⟨_, rfl, hx1⟩), hd7, time_le src dst (leV_refl _), rfl⟩
theorem con_dRule6 (l : List Int) (s : DS) (m : MD) (hd : Dk l s) (hk : m.kind = 6) (hp : 1 ≤ m.places.length ∧ m.places.length ≤ 6) (h1 : 1 ≤ m.states.length ∧ m.states.length ≤ 8) : RuleCon l s m := by
 refine RuleCon.mk ?_
 refine Con.intro Tryz.func61 rfl Tryz.ntmps61 Tryz.results61 (by kernel_rfl) (by simp) 1 (by simp) ?_
 have hn1 := nextV_lt (l := l) (s := s) (n := m.states.length) (by omega)
 have hd2 : Dk l (nextS l s m.states.length) := nextS_dk hd
 have hn2 := nextV_lt (l := l) (s := nextS l s m.states.length) (n := m.states.length) (by omega)
 have hd3 : Dk l (nextS l (nextS l s m.states.length) m.states.length) := nextS_dk hd2
 simp only [go_sem, hk]
 refine DrawK.news0 [(11, 3)] [14] [] 0 [4, 9] [] 12 (.one 12 .done) none (deckA l s) mixed (by kernel_rfl) (by kernel_rfl) (by kernel_rfl) (by simp only [go_sem]) (by simp only [go_sem]) ⟨by simp only [go_sem], by simp only [go_sem]⟩ ⟨by simp only [go_sem], by simp only [go_sem]⟩ ?_
 simp only [go_sem, List.length_map]
 refine EffK.mk (con_dNext l s m.states.length hd) (by simp only [go_sem]) (by simp only [go_sem]) (by simp only [go_sem]) (by simp only [go_sem]) ?_
 simp only [go_sem, List.length_map]
 refine EffK.mk (con_dNext l (nextS l s m.states.length) m.states.length hd2) (by simp only [go_sem]) (by simp only [go_sem]) (by simp only [go_sem]) (by simp only [go_sem]) ?_
 generalize nextV l s m.states.length = src at hn1
 generalize nextV l (nextS l s m.states.length) m.states.length = dst at hn2
 generalize nextS l (nextS l s m.states.length) m.states.length = s2 at hd3
 have hrep : List.replicate 14 AV.any = [.any, .any, .any, .any, .any, .any, .any, .any, .any, .any, .any, .any, .any, .any] := rfl
 simp only [go_sem, hrep]
 refine ⟨?_, trivial⟩
 have hV1 := smV_low (l := l) (s := s2) (most := 2) (by omega) m.places.length
 have hL1 := smV_len (l := l) (s := s2) (most := 2) m.places.length
 have hd4 : Dk l (smS l s2 2 m.places.length) := smS_dk hd3 _
 refine DrawK.effs branchRow 0 [5] [] 6 (.one 6 (.front 7 (.one 8 (.front 9 (.one 10 .done))))) none (deckA l s2) mixed (by kernel_rfl) (by simp only [branchRow, permG, renO, List.getElem?_cons_zero, List.getElem?_cons_succ, Option.map_none]; exact rfl) (by kernel_rfl) (by kernel_rfl) (by simp only [go_sem]) (by simp only [go_sem]) ?_
 simp only [go_sem]
 refine ⟨Nat.le_refl _, by omega, by omega, ?_⟩
 refine EffK.mk (con_dSmallF l s2 m.places.length 2 hd3 (by omega) (by omega)) (by simp only [go_sem]) (by simp only [go_sem]) (by simp only [go_sem]) (by simp only [go_sem]) ?_
 generalize smV l s2 2 m.places.length = gv at hV1 hL1
 generalize smS l s2 2 m.places.length = s3 at hd4
 have hsm : ∀ q : List Int, (∀ x ∈ q, 0 ≤ x ∧ x ≤ 2) → smallB q = true := fun q hq => by
  unfold smallB
  rw [List.all_eq_true]
  intro x hx
  have := hq x hx
  unfold betweenB
  rw [decide_eq_true (by omega), decide_eq_true (by omega)]; rfl
 have hch : ∀ (a b c : Int) (q : List Int), q.length = m.places.length → (∀ x ∈ q, 0 ≤ x ∧ x ≤ 2) → changesB m.places.length (brR a b q gv c) = true := fun a b c q h3 h4 => by
  show (decide (q.length = m.places.length) && decide (gv.length = m.places.length) && smallB q && smallB gv) = true
  rw [decide_eq_true h3, decide_eq_true hL1, hsm q h4, hsm gv hV1]; rfl
 have hlen : ∀ (a b c : Int) (q : List Int), q.length = m.places.length → LenR (brR a b q gv c) := fun a b c q h3 => ⟨⟨by show q.length ≤ _; omega, by show gv.length ≤ _; omega, by simp [brR], by simp [brR], by simp [brR], by simp [brR], by simp [brR]⟩, by simp [brR], by simp [brR]⟩
 have hfit : ∀ r, fitsR m r = branchB m.states.length m.places.length r := fun r => by unfold fitsR; rw [if_neg (by omega), if_neg (by omega), if_neg (by omega), if_neg (by omega)]
 have honly : ∀ (a b c : Int) (q : List Int), onlyR m.kind (brR a b q gv c) = brR a b q gv c := fun a b c q => by rw [hk]; rfl
 have hd5 : Dk l (nextS l s3 3) := nextS_dk hd4
 simp only [go_sem]
 refine ⟨?_, trivial⟩
 refine CallU.boxes (i := 0) (is := []) (bx0 := [deckA l s3]) (con_dOne l s3 3 hd4) (by simp only [go_sem]) (by simp only [go_sem]) (by simp only [go_sem]) (by simp only [go_sem]) (by simp only [go_sem]) ?_
 rintro r b ⟨rfl, rfl⟩
 generalize nextS l s3 3 = s4 at hd5
 cases ho : oneV l s3 3
 case true =>
  simp only [go_sem]
  refine ⟨brR (-1) dst (List.replicate m.places.length 0) gv (-1), s4, ⟨right_mk ?_ ?_ (honly ..), rfl, hlen _ _ _ _ (List.length_replicate ..)⟩, hd5, ?_, rfl⟩
  ·unfold endsR
   rw [show indexB (brR (-1) dst (List.replicate m.places.length 0) gv (-1)).dst m.states.length = true from index_ok hn2, hk]
   show (true && (indexB (-1) m.states.length || true)) = true
   rw [Bool.or_true]; rfl
  ·rw [hfit]
   unfold branchB
   rw [hch _ _ _ _ (List.length_replicate ..) (fun x hx => by rw [List.eq_of_mem_replicate hx]; omega)]
   show (true && true && (decide ((0 : Int) ≤ -1) || (true && (List.replicate m.places.length (0 : Int)).all fun x => x == 0))) = true
   have : ((List.replicate m.places.length (0 : Int)).all fun x => x == 0) = true := List.all_eq_true.2 fun x hx => by rw [List.eq_of_mem_replicate hx]; rfl
   rw [this]; rfl
  ·have e : List.replicate m.places.length (AV.sc (.int .i64 0)) = (List.replicate m.places.length (0 : Int)).map vi := by rw [List.map_replicate]; rfl
   rw [e]
   exact leV_ag ⟨leV_refl _, leV_refl _, leV_refl _, leV_refl _, leV_refl _, leV_nil _ _, leV_refl _, leV_refl _, leV_refl _, leV_nil _ _, leV_nil _ _, leV_nil _ _, leV_nil _ _, leV_refl _, trivial⟩
 have hV2 := smV_low (l := l) (s := s4) (most := 1) (by omega) m.places.length
 have hL2 := smV_len (l := l) (s := s4) (most := 1) m.places.length
 have hd6 : Dk l (smS l s4 1 m.places.length) := smS_dk hd5 _
 simp only [go_sem]
 refine CallU.boxes (i := 0) (is := []) (bx0 := [deckA l s4]) (con_dSmallF l s4 m.places.length 1 hd5 (by omega) (by omega)) (by simp only [go_sem]) (by simp only [go_sem]) (by simp only [go_sem]) (by simp only [go_sem]) (by simp only [go_sem]) ?_
 rintro r b ⟨rfl, rfl⟩
 generalize smV l s4 1 m.places.length = nd at hV2 hL2
 generalize smS l s4 1 m.places.length = s5 at hd6
 have hws : IntKind.i64.wrap ((m.states.length : Int) + 1) = (m.states.length : Int) + 1 := wrap_in (by omega) (by omega)
 have hx := nextV_lt (l := l) (s := s5) (n := (m.states.length : Int) + 1) (by omega)
 have hd7 : Dk l (nextS l s5 ((m.states.length : Int) + 1)) := nextS_dk hd6
 simp only [go_sem, hws]
 refine CallU.boxes (i := 0) (is := []) (bx0 := [deckA l s5]) (con_dNext l s5 ((m.states.length : Int) + 1) hd6) (by simp only [go_sem]) (by simp only [go_sem]) (by simp only [go_sem]) (by simp only [go_sem]) (by simp only [go_sem]) ?_
 rintro r b ⟨rfl, rfl⟩
 generalize nextV l s5 ((m.states.length : Int) + 1) = sec at hx
 generalize nextS l s5 ((m.states.length : Int) + 1) = s6 at hd7
 have hwx : IntKind.i64.wrap (sec - 1) = sec - 1 := wrap_in (by omega) (by omega)
 simp only [go_sem, hwx]
 refine ⟨brR src dst nd gv (sec - 1), s6, ⟨right_mk (ends_mk hn2 hn1) ?_ (honly ..), rfl, hlen _ _ _ _ hL2⟩, hd7, ?_, rfl⟩
 ·rw [hfit]
  unfold branchB
  rw [hch _ _ _ _ hL2 (fun x hx => by have := hV2 x hx; omega)]
  have e1 : (sec - 1 == -1 || indexB (sec - 1) m.states.length) = true := by
   by_cases h0 : sec = 0
   ·rw [h0]; rfl
   ·rw [index_ok (by omega), Bool.or_true]
  show (true && (sec - 1 == -1 || indexB (sec - 1) m.states.length) && (decide (0 ≤ src) || _)) = true
  rw [e1, decide_eq_true hn1.1]; rfl
 ·exact leV_ag ⟨leV_refl _, leV_refl _, leV_refl _, leV_refl _, leV_refl _, leV_nil _ _, leV_refl _, leV_refl _, leV_refl _, leV_nil _ _, leV_nil _ _, leV_nil _ _, leV_nil _ _, leV_refl _, trivial⟩
end Go.AM

/-! ## VW -/
namespace Go.AM
open Go Go.Proofs Go.RowKit
set_option maxRecDepth 100000
theorem con_rWord (v : List Int) (hv : v.length ≤ 100) : Con Tryz.prog 55 [vs 0 v] [] fun r _ => r = .ag [vi 0, .sl 2 2 (v.map kidN)] := by
 refine Con.intro Tryz.func55 rfl Tryz.ntmps55 Tryz.results55 (by kernel_rfl) (by simp) 0 (by simp) ?_
 simp only [go_sem]
 refine LoopK.intro (fun i : Nat => ⟨22, [(0, vs 0 v), (2, .pb 0 0), (3, .pb 1 0), (4, vi i)], [[.any, .any], [vi 0, .sl 1280 2 ((v.take i).map kidN)]]⟩)
  (fun i => v.length - i) (fun i => i ≤ v.length) 0 (by omega) ?_ ?_
 ·simp only [go_sem, List.take_zero, List.map_nil]
 rintro i hi
 by_cases h : i < v.length
 ·have hw : IntKind.i64.wrap (i + 1) = i + 1 := wrap_in (by omega) (by omega)
  have hg := getv h
  have e : v.take (i + 1) = v.take i ++ [v[i]!] := by rw [List.take_add_one, List.getElem?_eq_getElem h, getElem!_pos v i h]; rfl
  simp only [go_sem, h]
  refine DrawK.walk 8 mixed (by kernel_rfl) ?_
  simp only [go_sem, h, hw, hg]
  refine ⟨by simp only [roomFor, List.length_take]; omega, roundK.intro (i + 1) (by omega) (by omega) ?_⟩
  simp only [go_sem, e, List.map_append, List.map_cons, List.map_nil]
 ·have e : i = v.length := by omega
  subst e
  simp only [go_sem, h, List.take_length]
end Go.AM

/-! ## HW0 -/
namespace Go.AM
open Go Go.Proofs Go.RowKit
set_option maxRecDepth 100000
set_option maxHeartbeats 8000000
theorem con_mvalue (c : CV) (hc : c.Slim) : Con Tryz.prog 159 [vV c] [] fun r _ => r = ownV 2 c := by
 have key : ∀ (N : Nat) (c : CV), SizeOf.sizeOf c ≤ N → c.Slim → Con Tryz.prog 159 [vV c] [] fun r _ => r = ownV 2 c := by
  intro N
  induction N with
  | zero => intro v hs; cases v; rw [CV.mk.sizeOf_spec] at hs; omega
  | succ N ih =>
   intro v hs hv
   have hlen := hv.len
   rw [vV_eq]
   refine Con.intro Tryz.func159 rfl Tryz.ntmps159 Tryz.results159 (by kernel_rfl) (by simp) 0 (by simp) ?_
   simp only [go_sem]
   refine LoopK.intro (fun i : Nat => ⟨27, [(1, .pb 0 0), (2, .pb 1 0), (3, .pb 2 0), (4, vi i)], [[vi v.n, .sl 0 2 (v.kids.map vV)], [vi 0, .nil], [vi v.n, .sl 1600 2 ((v.kids.take i).map vV)]]⟩)
    (fun i => v.kids.length - i) (fun i => i ≤ v.kids.length) 0 (by omega) ?_ ?_
   ·simp only [go_sem, List.take_zero, List.map_nil]
    all_goals exact ⟨leV_refl _, leV_nil _ _, trivial⟩
   rintro i hi
   by_cases h : i < v.kids.length
   ·have hg := getvV h
    have hw : IntKind.i64.wrap (i + 1) = i + 1 := wrap_in (by omega) (by omega)
    have hmem : v.kids[i]! ∈ v.kids := mem_bangI h
    have hsz := kid_size hmem
    have e : (v.kids.take (i + 1)).map vV = (v.kids.take i).map vV ++ [.ag [vi v.kids[i]!.n, .sl 0 2 (v.kids[i]!.kids.map vV)]] := by
     rw [← vV_eq, List.take_add_one, List.getElem?_eq_getElem h, getElem!_pos v.kids i h, List.map_append]; rfl
    simp only [go_sem, h]
    refine DrawK.walk 9 mixed (by kernel_rfl) ?_
    simp only [go_sem, h, hg]
    refine CallY.mk (Con.froz (ih v.kids[i]! (by omega) (hv.kid hmem))) (by simp only [go_sem, vV_eq]) (by simp only [go_sem]) (.inl (by simp only [go_sem])) ?_
    simp only [go_sem, hw]
    refine ⟨by simp only [roomFor, List.length_take]; omega, ?_⟩
    refine roundK.intro (i + 1) (by omega) (by omega) ?_
    simp only [go_sem, e]
   ·have e : v.kids.take i = v.kids := List.take_of_length_le (by omega)
    simp only [go_sem, h, e]
 exact key _ c (Nat.le_refl _) hc
def treeK (l : List Int) (f : DS → Int → CV × DS) : Nat → DS → Int → List CV × DS
 | 0, s, _ => ([], s)
 | n + 1, s, left =>
  if left ≤ 0 then ([], s) else if oneV l s 3 = true then ([], nextS l s 3)
  else ((f (nextS l (nextS l s 3) left) (1 + nextV l (nextS l s 3) left)).1 :: (treeK l f n (f (nextS l (nextS l s 3) left) (1 + nextV l (nextS l s 3) left)).2 (left - (1 + nextV l (nextS l s 3) left))).1,
   (treeK l f n (f (nextS l (nextS l s 3) left) (1 + nextV l (nextS l s 3) left)).2 (left - (1 + nextV l (nextS l s 3) left))).2)
def treeP (l : List Int) : Nat → DS → Int → Int → CV × DS
 | 0, s, labels, _ => (.mk (nextV l s labels) [], nextS l s labels)
 | d + 1, s, labels, most => (.mk (nextV l s labels) (treeK l (fun s k => treeP l d s labels k) (most - 1).toNat (nextS l s labels) (most - 1)).1, (treeK l (fun s k => treeP l d s labels k) (most - 1).toNat (nextS l s labels) (most - 1)).2)
theorem treeK_zero {l : List Int} {f : DS → Int → CV × DS} {n : Nat} {s : DS} {left : Int} (h : left ≤ 0) : treeK l f n s left = ([], s) := by
 cases n with
 | zero => rfl
 | succ n => unfold treeK; rw [if_pos h]
theorem treeK_dk {l : List Int} {f : DS → Int → CV × DS} (hf : ∀ s k, Dk l s → Dk l (f s k).2) : ∀ (n : Nat) (s : DS) (left : Int), Dk l s → Dk l (treeK l f n s left).2
 | 0, s, left, h => h
 | n + 1, s, left, h => by
  unfold treeK
  split
  ·exact h
  ·split
   ·exact nextS_dk h
   ·exact treeK_dk hf n _ _ (hf _ _ (nextS_dk (nextS_dk h)))
theorem treeP_dk {l : List Int} : ∀ (d : Nat) (s : DS) (labels most : Int), Dk l s → Dk l (treeP l d s labels most).2
 | 0, _, _, _, h => nextS_dk h
 | d + 1, _, labels, _, h => treeK_dk (fun s k h => treeP_dk d s labels k h) _ _ _ (nextS_dk h)
theorem treeP_slim {l : List Int} : ∀ (d : Nat) (s : DS) (labels most : Int), most ≤ 100000 → (treeP l d s labels most).1.Slim
 | 0, s, labels, most, _ => .leaf _
 | d + 1, s, labels, most, h => by
  have hf : ∀ (s : DS) (k : Int), k ≤ 100000 → (treeP l d s labels k).1.Slim := fun s k hk => treeP_slim d s labels k hk
  have key : ∀ (n : Nat) (s : DS) (left : Int), left ≤ 100000 → (treeK l (fun s k => treeP l d s labels k) n s left).1.length ≤ n ∧ ∀ x ∈ (treeK l (fun s k => treeP l d s labels k) n s left).1, x.Slim := by
   intro n
   induction n with
   | zero => exact fun s left _ => ⟨Nat.le_refl _, fun x hx => by cases hx⟩
   | succ n ih =>
    intro s left hl
    unfold treeK
    split
    ·exact ⟨by simp, fun x hx => by cases hx⟩
    ·split
     ·exact ⟨by simp, fun x hx => by cases hx⟩
     ·have hn := nextV_lt (l := l) (s := nextS l s 3) (n := left) (by omega)
      have h2 := ih (treeP l d (nextS l (nextS l s 3) left) labels (1 + nextV l (nextS l s 3) left)).2 (left - (1 + nextV l (nextS l s 3) left)) (by omega)
      refine ⟨by rw [List.length_cons]; omega, fun x hx => ?_⟩
      rcases List.mem_cons.1 hx with rfl | hx
      ·exact hf _ _ (by omega)
      ·exact h2.2 x hx
  have := key (most - 1).toNat (nextS l s labels) (most - 1) (by omega)
  exact .mk _ _ (by omega) this.2
theorem con_dTree (l : List Int) : ∀ (d : Nat) (s : DS) (labels most : Int), most ≤ d → d ≤ 900 → Dk l s → -1000 ≤ most →
  Con Tryz.prog 160 [.pb 0 0, vi labels, vi most] [deckA l s] fun r b => r = ownV 2 (treeP l d s labels most).1 ∧ b = [deckA l (treeP l d s labels most).2] := by
 intro d
 induction d with
 | zero =>
  intro s labels most hm hl hd hlow
  have e : treeP l 0 s labels most = (.mk (nextV l s labels) [], nextS l s labels) := rfl
  rw [e]
  have key : Con Tryz.prog 160 [.pb 0 0, vi labels, vi most] [deckA l s] fun r b => leV r (ownV 2 (.mk (nextV l s labels) [])) ∧ b = [deckA l (nextS l s labels)] := by
   refine Con.intro Tryz.func160 rfl Tryz.ntmps160 Tryz.results160 (by kernel_rfl) (by simp) 1 (by simp) ?_
   simp only [go_sem]
   refine CallU.boxes (i := 0) (is := []) (bx0 := [deckA l s]) (con_dNext l s labels hd) (by simp only [go_sem]) (by simp only [go_sem]) (by simp only [go_sem]) (by simp only [go_sem]) (by simp only [go_sem]) ?_
   rintro r b ⟨rfl, rfl⟩
   generalize nextV l s labels = n
   generalize nextS l s labels = s1
   have hw : IntKind.i64.wrap (most - 1) = most - 1 := wrap_in (by omega) (by omega)
   have hp : ¬ 0 < most - 1 := by omega
   simp only [go_sem, hw]
   refine LoopK.intro (fun _ : Unit => ⟨40, [(0, .pb 0 0), (1, vi labels), (6, .pb 1 0), (7, .pb 2 0), (8, vi (most - 1))], [deckA l s1, [.any, .any], [vi n, .nil]]⟩)
    (fun _ => 0) (fun _ => True) () trivial ?_ ?_
   ·simp only [go_sem]
   rintro _ _
   simp only [go_sem, hp]
   exact leV_ag ⟨leV_refl _, leV_nil _ _, trivial⟩
  exact key.weak fun r b ⟨h1, h2⟩ => ⟨_, ⟨rfl, h2⟩, h1⟩
 | succ d ih =>
  intro s labels most hm hl hd hlow
  have hrec : ∀ (s : DS) (k : Int), k ≤ d → Dk l s → 1 ≤ k → Con Tryz.prog 160 [.pb 0 0, vi labels, vi k] [deckA l s] fun r b => r = ownV 0 (treeP l d s labels k).1 ∧ b = [deckA l (treeP l d s labels k).2] := fun s k h1 h2 h3 =>
   ((ih s labels k h1 (by omega) h2 (by omega)).freezeB fun _ => true).mono fun r b ⟨r1, b1, ⟨h1, h2⟩, h3, h4⟩ => by
    subst h1; subst h2; subst h3; subst h4
    exact ⟨rfl, rfl⟩
  have hn1 : Dk l (nextS l s labels) := nextS_dk hd
  have hdk : ∀ (s : DS) (k : Int), Dk l s → Dk l (treeP l d s labels k).2 := fun s k h => treeP_dk (l := l) d s labels k h
  have e : treeP l (d + 1) s labels most = (.mk (nextV l s labels) (treeK l (fun s k => treeP l d s labels k) (most - 1).toNat (nextS l s labels) (most - 1)).1, (treeK l (fun s k => treeP l d s labels k) (most - 1).toNat (nextS l s labels) (most - 1)).2) := rfl
  rw [e]
  obtain ⟨f, hf⟩ : ∃ f : DS → Int → CV × DS, f = fun s k => treeP l d s labels k := ⟨_, rfl⟩
  have hrec' : ∀ (s : DS) (k : Int), k ≤ d → Dk l s → 1 ≤ k → Con Tryz.prog 160 [.pb 0 0, vi labels, vi k] [deckA l s] fun r b => r = ownV 0 (f s k).1 ∧ b = [deckA l (f s k).2] := by rw [hf]; exact hrec
  have hfd : ∀ s k, Dk l s → Dk l (f s k).2 := by rw [hf]; exact hdk
  rw [← hf]
  clear hf hrec hdk e
  have key : Con Tryz.prog 160 [.pb 0 0, vi labels, vi most] [deckA l s] fun r b => leV r (ownV 2 (.mk (nextV l s labels) (treeK l f (most - 1).toNat (nextS l s labels) (most - 1)).1)) ∧ b = [deckA l (treeK l f (most - 1).toNat (nextS l s labels) (most - 1)).2] := by
   refine Con.intro Tryz.func160 rfl Tryz.ntmps160 Tryz.results160 (by kernel_rfl) (by simp) 1 (by simp) ?_
   simp only [go_sem]
   refine CallU.boxes (i := 0) (is := []) (bx0 := [deckA l s]) (con_dNext l s labels hd) (by simp only [go_sem]) (by simp only [go_sem]) (by simp only [go_sem]) (by simp only [go_sem]) (by simp only [go_sem]) ?_
   rintro r b ⟨rfl, rfl⟩
   generalize nextV l s labels = n
   generalize nextS l s labels = s1 at hn1 ⊢
   have hw : IntKind.i64.wrap (most - 1) = most - 1 := wrap_in (by omega) (by omega)
   simp only [go_sem, hw]
   obtain ⟨Q, hQ⟩ : ∃ Q, Q = treeK l f (most - 1).toNat s1 (most - 1) := ⟨_, rfl⟩
   rw [← hQ]
   refine LoopK.intro (fun p : List CV × DS × Int => ⟨40, [(0, .pb 0 0), (1, vi labels), (6, .pb 1 0), (7, .pb 2 0), (8, vi p.2.2)], [deckA l p.2.1, [.any, .any], [vi n, .sl 2240 2 (p.1.map vV)]]⟩)
    (fun p => p.2.2.toNat) (fun p => Dk l p.2.1 ∧ (p.1.length : Int) + max 0 p.2.2 ≤ max 0 (most - 1) ∧ p.2.2 ≤ most - 1 ∧ -2000 ≤ p.2.2 ∧ ∃ N : Nat, p.2.2 ≤ N ∧ Q = (p.1 ++ (treeK l f N p.2.1 p.2.2).1, (treeK l f N p.2.1 p.2.2).2)) ([], s1, most - 1) ⟨hn1, by show ((0 : Nat) : Int) + max 0 (most - 1) ≤ _; omega, by show most - 1 ≤ most - 1; omega, by show -2000 ≤ most - 1; omega, (most - 1).toNat, by show most - 1 ≤ _; omega, by rw [List.nil_append]; exact hQ⟩ ?_ ?_
   ·simp only [go_sem, List.map_nil]
   rintro ⟨kids, s2, left⟩ ⟨h1, h2, h3, h4, N, h5, h6⟩
   simp only at h1 h2 h3 h4 h5 h6
   by_cases hp : 0 < left
   case neg =>
    rw [treeK_zero (by omega), List.append_nil] at h6
    simp only [go_sem, hp, h6]
    exact leV_refl _
   simp only [go_sem, hp]
   refine CallU.boxes (i := 0) (is := []) (bx0 := [deckA l s2]) (con_dOne l s2 3 h1) (by simp only [go_sem]) (by simp only [go_sem]) (by simp only [go_sem]) (by simp only [go_sem]) (by simp only [go_sem]) ?_
   rintro r b ⟨rfl, rfl⟩
   have hd2 : Dk l (nextS l s2 3) := nextS_dk h1
   obtain ⟨M, rfl⟩ : ∃ M, N = M + 1 := ⟨N - 1, by omega⟩
   have e : treeK l f (M + 1) s2 left = if oneV l s2 3 = true then ([], nextS l s2 3)
    else ((f (nextS l (nextS l s2 3) left) (1 + nextV l (nextS l s2 3) left)).1 :: (treeK l f M (f (nextS l (nextS l s2 3) left) (1 + nextV l (nextS l s2 3) left)).2 (left - (1 + nextV l (nextS l s2 3) left))).1,
     (treeK l f M (f (nextS l (nextS l s2 3) left) (1 + nextV l (nextS l s2 3) left)).2 (left - (1 + nextV l (nextS l s2 3) left))).2) := by
    conv => lhs; unfold treeK
    rw [if_neg (by omega)]
   rw [e] at h6
   clear e
   generalize nextS l s2 3 = s3 at hd2 h6 ⊢
   cases ho : oneV l s2 3
   case true =>
    rw [ho, if_pos rfl, List.append_nil] at h6
    simp only [go_sem, h6]
    exact leV_refl _
   rw [ho, if_neg (by decide)] at h6
   simp only [go_sem]
   have hn := nextV_lt (l := l) (s := s3) (n := left) (by omega)
   have hd3 : Dk l (nextS l s3 left) := nextS_dk hd2
   refine CallU.boxes (i := 0) (is := []) (bx0 := [deckA l s3]) (con_dNext l s3 left hd2) (by simp only [go_sem]) (by simp only [go_sem]) (by simp only [go_sem]) (by simp only [go_sem]) (by simp only [go_sem]) ?_
   rintro r b ⟨rfl, rfl⟩
   obtain ⟨k, ek, hk⟩ : ∃ k : Int, 1 + nextV l s3 left = k ∧ (1 ≤ k ∧ k ≤ left) := ⟨_, rfl, by omega⟩
   have hw_k : IntKind.i64.wrap (1 + nextV l s3 left) = k := by rw [wrap_in (by omega) (by omega), ek]
   rw [ek] at h6
   generalize nextS l s3 left = s4 at hd3 h6 ⊢
   simp only [go_sem, hw_k]
   have hih := hrec' s4 k (by omega) hd3 hk.1
   have hd4 := hfd s4 k hd3
   generalize f s4 k = q at hih hd4 h6
   have hw2 : IntKind.i64.wrap (left - k) = left - k := wrap_in (by omega) (by omega)
   have hrm : roomFor (kids.length + 1) 32 := by simp only [roomFor]; omega
   refine DrawK.effs0 0 [5] [] 7 (.one 7 (.front 8 (.one 9 .done))) none (deckA l s4) mixed (by kernel_rfl) (by kernel_rfl) (by simp only [go_sem]) (by simp only [go_sem]) ?_
   simp only [go_sem]
   refine EffK.mk hih (by simp only [go_sem]) (by simp only [go_sem]) (by simp only [go_sem]) (by simp only [go_sem]) ?_
   simp only [go_sem, hw2, List.length_map]
   refine ⟨⟨hrm, roundK.intro (kids ++ [q.1], q.2, left - k) ⟨hd4, by show ((kids ++ [q.1]).length : Int) + max 0 (left - k) ≤ _; rw [List.length_append, List.length_singleton]; omega, by show left - k ≤ _; omega, by show -2000 ≤ left - k; omega, M, by show left - k ≤ _; omega, by rw [h6, List.append_assoc]; rfl⟩ (by show (left - k).toNat < left.toNat; omega) ?_⟩, trivial⟩
   simp only [go_sem, List.map_append, List.map_cons, List.map_nil]
   rw [vV_eq q.1]
   exact leV_refl _
  exact key.weak fun r b ⟨h1, h2⟩ => ⟨_, ⟨rfl, h2⟩, h1⟩
end Go.AM
