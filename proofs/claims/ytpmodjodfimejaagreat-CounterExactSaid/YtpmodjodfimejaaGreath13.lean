/- HU GH GI GJ GK -/
import Derived.Test.YtpmodjodfimejaaGreath9
import Derived.Test.YtpmodjodfimejaaGreath12
import Derived.Test.YtpmodjodfimejaaGreath7
namespace Go.AM
open Go Go.Proofs Go.RowKit
set_option maxRecDepth 100000
set_option maxHeartbeats 8000000
theorem same_refl (r : RD) : sameB r r = true := by unfold sameB; simp
theorem right_mk {m : MD} {r : RD} (h1 : endsR m r = true) (h2 : fitsR m r = true) (h3 : onlyR m.kind r = r) : rightR m r = true := by
 unfold rightR
 rw [h1, h2, h3, same_refl]; rfl
theorem index_ok {x : Int} {n : Nat} (h : 0 <= x /\ x < n) : indexB x n = true := by unfold indexB; rw [decide_eq_true h.1, decide_eq_true h.2]; rfl
theorem ends_mk {m : MD} {r : RD} (h1 : 0 <= r.dst /\ r.dst < m.states.length) (h2 : 0 <= r.src /\ r.src < m.states.length) : endsR m r = true := by
 unfold endsR
 rw [index_ok h1, index_ok h2]; rfl
def DealtX (m : MD) (x : RD) : Prop := rightR m x = true /\ x.name = emptyB /\ LenR x
def RuleCon (l : List Int) (s : DS) (m : MD) : Prop :=
 Con Tryz.prog 61 [.pb 0 0, hidA m] [deckA l s] fun r b => ∃ (x : RD) (s' : DS), DealtX m x /\ Dk l s' /\ r = vRule x /\ b = [deckA l s']
theorem RuleCon.mk {l : List Int} {s : DS} {m : MD} (h : Con Tryz.prog 61 [.pb 0 0, hidA m] [deckA l s] fun r b => ∃ (x : RD) (s' : DS), DealtX m x /\ Dk l s' /\ leV (r.freeze fun _ => true) (vRule x) /\ b = [deckA l s']) : RuleCon l s m :=
 (h.freezeB fun _ => true).weak fun r b ⟨r1, b1, ⟨x, s', h1, h2, h3, h4⟩, h7, h8⟩ => by
  subst h4; subst h7; subst h8
  exact ⟨vRule x, ⟨x, s', h1, h2, rfl, rfl⟩, h3⟩
theorem con_dWordF (l : List Int) (s : DS) (letters most : Int) (h : Dk l s) (h1 : 0 <= letters /\ letters <= 1000000) (h2 : 0 <= most /\ most <= 1000) : Con Tryz.prog 48 [.pb 0 0, vi letters, vi most] [deckA l s]
  fun r b => r = vs 0 (wdV l s letters most) /\ b = [deckA l (wdS l s letters most)] :=
 ((con_dWord l s letters most h h1 h2).freezeB fun _ => true).mono fun r b ⟨r1, b1, ⟨h1, h2⟩, h3, h4⟩ => by
  subst h1; subst h2; subst h3; subst h4
  exact ⟨rfl, rfl⟩
theorem wdV_low {l : List Int} {s : DS} {letters most : Int} (h1 : 1 <= letters) : ∀ x ∈ wdV l s letters most, 0 <= x /\ x < letters := fun x hx => by
 unfold wdV at hx
 have := smV_low (l := l) (most := letters - 1) (by omega) _ x hx
 omega
theorem wdV_len {l : List Int} {s : DS} {letters most : Int} (h : 0 <= most) : ((wdV l s letters most).length : Int) <= most := by
 have := (wdN_le (l := l) (s := s) h).2
 unfold wdV
 rw [smV_len]; exact this
def chanRow : List Nat := [0, 1, 2, 8, 3, 4, 5, 6, 7, 9, 10, 11]
def pathRow : List Nat := [0, 1, 2, 3, 4, 5, 6, 14, 7, 8, 9, 10, 11, 12, 13, 15, 16, 17]
def branchRow : List Nat := [0, 1, 5, 2, 3, 4, 6, 7, 8, 9, 10]
def chanR (src dst ch act le : Int) : RD := ⟨emptyB, src, dst, [], [], [], ch, act, le, [], [], [], [], 0⟩
def pathR (src dst : Int) (p q : List Int) : RD := ⟨emptyB, src, dst, [], [], [], 0, 0, 0, p, q, [], [], 0⟩
def timeR (src dst : Int) (t : List (Int × Int × Int)) (k : List Int) : RD := ⟨emptyB, src, dst, [], [], [], 0, 0, 0, [], [], t, k, 0⟩
def brR (src dst : Int) (n g : List Int) (sec : Int) : RD := ⟨emptyB, src, dst, n, g, [], 0, 0, 0, [], [], [], [], sec⟩
theorem len_chan (a b c d e : Int) : LenR (chanR a b c d e) := ⟨⟨by simp [chanR], by simp [chanR], by simp [chanR], by simp [chanR], by simp [chanR], by simp [chanR], by simp [chanR]⟩, by simp [chanR], by simp [chanR]⟩
def GoodT (np : Nat) (age : Int) (t : Int × Int × Int) : Prop := (0 <= t.1 /\ t.1 < np) /\ 0 <= t.2.1 /\ t.2.1 <= t.2.2 /\ t.2.2 <= age + 1
theorem time_dealt {m : MD} {src dst : Int} {L : List (Int × Int × Int)} {k : List Int} (hk : m.kind = 5) (h1 : 0 <= src /\ src < m.states.length) (h2 : 0 <= dst /\ dst < m.states.length) (hl : L.length <= 2) (hL : ∀ t ∈ L, GoodT m.places.length m.age t)
  (hK : k = [] \/ ∃ y, k = [y] /\ 0 <= y /\ y < m.places.length) : DealtX m (timeR src dst L k) := by
 have hkl : k.length <= 1 := by rcases hK with rfl | ⟨y, rfl, _⟩ <;> simp
 have hasc : ascI k = true := by rcases hK with rfl | ⟨y, rfl, _⟩ <;> simp [ascI]
 have hall : k.all (fun x => indexB x m.places.length) = true := by
  rcases hK with rfl | ⟨y, rfl, h⟩
  ·rfl
  ·rw [List.all_cons, index_ok h]; rfl
 have hany : L.any (badTake m.places.length m.age) = false := by
  rw [List.any_eq_false]
  intro t ht
  have h := hL t ht
  unfold GoodT at h
  unfold badTake
  rw [index_ok h.1, decide_eq_false (by omega), decide_eq_false (by omega), decide_eq_false (by omega)]; decide
 refine ⟨right_mk (ends_mk h2 h1) ?_ (by rw [hk]; rfl), rfl, ⟨⟨by simp [timeR], by simp [timeR], by simp [timeR], by simp [timeR], by simp [timeR], by show L.length <= _; omega, by show k.length <= _; omega⟩, by simp [timeR], by simp [timeR]⟩⟩
 unfold fitsR agesB
 rw [if_neg (by omega), if_neg (by omega), if_neg (by omega), if_pos hk]
 show (decide (L.length <= 3) && decide (k.length <= 3) && ascI k && k.all (fun x => indexB x m.places.length) && !L.any (badTake m.places.length m.age)) = true
 rw [hasc, hall, hany, decide_eq_true (by omega), decide_eq_true (by omega)]; rfl
theorem time_le (src dst : Int) {L : List (Int × Int × Int)} {k : List Int} {x : AV} (h : leV x (vs 0 k)) : leV (.ag [vStr emptyB, vi src, vi dst, .nil, .nil, .nil, vi 0, vi 0, vi 0, .nil, .nil, .sl 0 3 (L.map vTake), x, vi 0]) (vRule (timeR src dst L k)) :=
 leV_ag ⟨leV_refl _, leV_refl _, leV_refl _, leV_nil _ _, leV_nil _ _, leV_nil _ _, leV_refl _, leV_refl _, leV_refl _, leV_nil _ _, leV_nil _ _, leV_refl _, h, leV_refl _, trivial⟩
theorem con_dRule2 (l : List Int) (s : DS) (m : MD) (hd : Dk l s) (hk : m.kind = 2) (hp : 1 <= m.places.length /\ m.places.length <= 6) (hl : 1 <= m.letters.length /\ m.letters.length <= 6) (h1 : 1 <= m.states.length /\ m.states.length <= 8) : RuleCon l s m := by
 refine RuleCon.mk ?_
 refine Con.intro Tryz.func61 rfl Tryz.ntmps61 Tryz.results61 (by kernel_rfl) (by simp) 1 (by simp) ?_
 have hn1 := nextV_lt (l := l) (s := s) (n := m.states.length) (by omega)
 have hd2 : Dk l (nextS l s m.states.length) := nextS_dk hd
 have hn2 := nextV_lt (l := l) (s := nextS l s m.states.length) (n := m.states.length) (by omega)
 have hd3 : Dk l (nextS l (nextS l s m.states.length) m.states.length) := nextS_dk hd2
 simp only [go_sem, hk]
 refine DrawK.news0 [(11, 3)] [14] [] 0 [4, 9] [] 12 (.one 12 .done) none (deckA l s) mixed (by kernel_rfl) (by kernel_rfl) (by kernel_rfl) (by simp only [go_sem]) (by simp only [go_sem]) ⟨by simp only [go_sem], by simp only [go_sem]⟩ ⟨by simp only [go_sem], by simp only [go_sem]⟩ ?_
 simp only [go_sem, List.length_map]
 refine EffK.mk (con_dNext l s m.states.length hd) (by simp only [go_sem]) (by simp only [go_sem]) (by simp only [go_sem]) (by simp only [go_sem]) ?_
 simp only [go_sem, List.length_map]
 refine EffK.mk (con_dNext l (nextS l s m.states.length) m.states.length hd2) (by simp only [go_sem]) (by simp only [go_sem]) (by simp only [go_sem]) (by simp only [go_sem]) ?_
 generalize nextV l s m.states.length = src at hn1
 generalize nextV l (nextS l s m.states.length) m.states.length = dst at hn2
 generalize nextS l (nextS l s m.states.length) m.states.length = s2 at hd3
 have hrep : List.replicate 14 AV.any = [.any, .any, .any, .any, .any, .any, .any, .any, .any, .any, .any, .any, .any, .any] := rfl
 simp only [go_sem, hrep]
 refine ⟨?_, trivial⟩
 have hx0 := nextV_lt (l := l) (s := s2) (n := 3) (by omega)
 have hd4 : Dk l (nextS l s2 3) := nextS_dk hd3
 refine CallU.boxes (i := 0) (is := []) (bx0 := [deckA l s2]) (con_dNext l s2 3 hd3) (by simp only [go_sem]) (by simp only [go_sem]) (by simp only [go_sem]) (by simp only [go_sem]) (by simp only [go_sem]) ?_
 rintro r b ⟨rfl, rfl⟩
 generalize nextV l s2 3 = act at hx0
 generalize nextS l s2 3 = s3 at hd4
 by_cases h0 : act = 0
 ·have hb : (act != 0) = false := by rw [h0]; rfl
  simp only [go_sem, hb]
  refine ⟨chanR src dst 0 act 0, s3, ⟨right_mk (ends_mk hn2 hn1) ?_ (by rw [hk]; rfl), rfl, len_chan ..⟩, hd4, ?_, rfl⟩
  ·unfold fitsR actsB
   rw [if_neg (by omega), if_pos (by omega), if_pos (show (chanR src dst 0 act 0).act = 0 from h0)]; rfl
  ·exact leV_ag ⟨leV_refl _, leV_refl _, leV_refl _, leV_nil _ _, leV_nil _ _, leV_nil _ _, leV_refl _, leV_refl _, leV_refl _, leV_nil _ _, leV_nil _ _, leV_nil _ _, leV_nil _ _, leV_refl _, trivial⟩
 have hb : (act != 0) = true := bne_iff_ne.2 h0
 have hx1 := nextV_lt (l := l) (s := s3) (n := m.places.length) (by omega)
 have hd5 : Dk l (nextS l s3 m.places.length) := nextS_dk hd4
 have hx2 := nextV_lt (l := l) (s := nextS l s3 m.places.length) (n := m.letters.length) (by omega)
 have hd6 : Dk l (nextS l (nextS l s3 m.places.length) m.letters.length) := nextS_dk hd5
 simp only [go_sem, hb]
 refine DrawK.effs chanRow 0 [2, 8] [] 9 (.one 9 (.front 10 (.one 11 .done))) none (deckA l s3) mixed (by kernel_rfl) (by simp only [chanRow, permG, renO, List.getElem?_cons_zero, List.getElem?_cons_succ, Option.map_none]; exact rfl) (by kernel_rfl) (by kernel_rfl) (by simp only [go_sem]) (by simp only [go_sem]) ?_
 simp only [go_sem]
 refine EffK.mk (con_dNext l s3 m.places.length hd4) (by simp only [go_sem]) (by simp only [go_sem]) (by simp only [go_sem]) (by simp only [go_sem]) ?_
 simp only [go_sem, List.length_map]
 refine EffK.mk (con_dNext l (nextS l s3 m.places.length) m.letters.length hd5) (by simp only [go_sem]) (by simp only [go_sem]) (by simp only [go_sem]) (by simp only [go_sem]) ?_
 generalize nextV l (nextS l s3 m.places.length) m.letters.length = le at hx2
 generalize nextS l (nextS l s3 m.places.length) m.letters.length = s4 at hd6
 generalize nextV l s3 m.places.length = ch at hx1
 simp only [go_sem]
 refine ⟨⟨chanR src dst ch act le, s4, ⟨right_mk (ends_mk hn2 hn1) ?_ (by rw [hk]; rfl), rfl, len_chan ..⟩, hd6, ?_, rfl⟩, trivial⟩
 ·unfold fitsR actsB
  rw [if_neg (by omega), if_pos (by omega), if_neg (show ¬ (chanR src dst ch act le).act = 0 from h0)]
  have a1 : betweenB (chanR src dst ch act le).act 1 2 = true := by
   show betweenB act 1 2 = true
   unfold betweenB
   rw [decide_eq_true (show 1 <= act by omega), decide_eq_true (show act <= 2 by omega)]; rfl
  rw [a1, show indexB (chanR src dst ch act le).channel m.places.length = true from index_ok hx1, show indexB (chanR src dst ch act le).letter m.letters.length = true from index_ok hx2]; rfl
 ·exact leV_ag ⟨leV_refl _, leV_refl _, leV_refl _, leV_nil _ _, leV_nil _ _, leV_nil _ _, leV_refl _, leV_refl _, leV_refl _, leV_nil _ _, leV_nil _ _, leV_nil _ _, leV_nil _ _, leV_refl _, trivial⟩
theorem con_dRule3 (l : List Int) (s : DS) (m : MD) (hd : Dk l s) (hk : m.kind = 3) (hp : 1 <= m.places.length /\ m.places.length <= 6) (hl : 1 <= m.letters.length /\ m.letters.length <= 6) (h1 : 1 <= m.states.length /\ m.states.length <= 8) : RuleCon l s m := by
 refine RuleCon.mk ?_
 refine Con.intro Tryz.func61 rfl Tryz.ntmps61 Tryz.results61 (by kernel_rfl) (by simp) 1 (by simp) ?_
 have hn1 := nextV_lt (l := l) (s := s) (n := m.states.length) (by omega)
 have hd2 : Dk l (nextS l s m.states.length) := nextS_dk hd
 have hn2 := nextV_lt (l := l) (s := nextS l s m.states.length) (n := m.states.length) (by omega)
 have hd3 : Dk l (nextS l (nextS l s m.states.length) m.states.length) := nextS_dk hd2
 simp only [go_sem, hk]
 refine DrawK.news0 [(11, 3)] [14] [] 0 [4, 9] [] 12 (.one 12 .done) none (deckA l s) mixed (by kernel_rfl) (by kernel_rfl) (by kernel_rfl) (by simp only [go_sem]) (by simp only [go_sem]) ⟨by simp only [go_sem], by simp only [go_sem]⟩ ⟨by simp only [go_sem], by simp only [go_sem]⟩ ?_
 simp only [go_sem, List.length_map]
 refine EffK.mk (con_dNext l s m.states.length hd) (by simp only [go_sem]) (by simp only [go_sem]) (by simp only [go_sem]) (by simp only [go_sem]) ?_
 simp only [go_sem, List.length_map]
 refine EffK.mk (con_dNext l (nextS l s m.states.length) m.states.length hd2) (by simp only [go_sem]) (by simp only [go_sem]) (by simp only [go_sem]) (by simp only [go_sem]) ?_
 generalize nextV l s m.states.length = src at hn1
 generalize nextV l (nextS l s m.states.length) m.states.length = dst at hn2
 generalize nextS l (nextS l s m.states.length) m.states.length = s2 at hd3
 have hrep : List.replicate 14 AV.any = [.any, .any, .any, .any, .any, .any, .any, .any, .any, .any, .any, .any, .any, .any] := rfl
 simp only [go_sem, hrep]
 refine ⟨?_, trivial⟩
 have hx0 := nextV_lt (l := l) (s := s2) (n := 3) (by omega)
 have hd4 : Dk l (nextS l s2 3) := nextS_dk hd3
 refine CallU.boxes (i := 0) (is := []) (bx0 := [deckA l s2]) (con_dNext l s2 3 hd3) (by simp only [go_sem]) (by simp only [go_sem]) (by simp only [go_sem]) (by simp only [go_sem]) (by simp only [go_sem]) ?_
 rintro r b ⟨rfl, rfl⟩
 generalize nextV l s2 3 = act at hx0
 generalize nextS l s2 3 = s3 at hd4
 by_cases h0 : act = 0
 ·have hb : (act != 0) = false := by rw [h0]; rfl
  simp only [go_sem, hb]
  refine ⟨chanR src dst 0 act 0, s3, ⟨right_mk (ends_mk hn2 hn1) ?_ (by rw [hk]; rfl), rfl, len_chan ..⟩, hd4, ?_, rfl⟩
  ·unfold fitsR actsB
   rw [if_neg (by omega), if_pos (by omega), if_pos (show (chanR src dst 0 act 0).act = 0 from h0)]; rfl
  ·exact leV_ag ⟨leV_refl _, leV_refl _, leV_refl _, leV_nil _ _, leV_nil _ _, leV_nil _ _, leV_refl _, leV_refl _, leV_refl _, leV_nil _ _, leV_nil _ _, leV_nil _ _, leV_nil _ _, leV_refl _, trivial⟩
 have hb : (act != 0) = true := bne_iff_ne.2 h0
 have hx1 := nextV_lt (l := l) (s := s3) (n := m.places.length) (by omega)
 have hd5 : Dk l (nextS l s3 m.places.length) := nextS_dk hd4
 have hx2 := nextV_lt (l := l) (s := nextS l s3 m.places.length) (n := m.letters.length) (by omega)
 have hd6 : Dk l (nextS l (nextS l s3 m.places.length) m.letters.length) := nextS_dk hd5
 simp only [go_sem, hb]
 refine DrawK.effs chanRow 0 [2, 8] [] 9 (.one 9 (.front 10 (.one 11 .done))) none (deckA l s3) mixed (by kernel_rfl) (by simp only [chanRow, permG, renO, List.getElem?_cons_zero, List.getElem?_cons_succ, Option.map_none]; exact rfl) (by kernel_rfl) (by kernel_rfl) (by simp only [go_sem]) (by simp only [go_sem]) ?_
 simp only [go_sem]
 refine EffK.mk (con_dNext l s3 m.places.length hd4) (by simp only [go_sem]) (by simp only [go_sem]) (by simp only [go_sem]) (by simp only [go_sem]) ?_
 simp only [go_sem, List.length_map]
 refine EffK.mk (con_dNext l (nextS l s3 m.places.length) m.letters.length hd5) (by simp only [go_sem]) (by simp only [go_sem]) (by simp only [go_sem]) (by simp only [go_sem]) ?_
 generalize nextV l (nextS l s3 m.places.length) m.letters.length = le at hx2
 generalize nextS l (nextS l s3 m.places.length) m.letters.length = s4 at hd6
 generalize nextV l s3 m.places.length = ch at hx1
 simp only [go_sem]
 refine ⟨⟨chanR src dst ch act le, s4, ⟨right_mk (ends_mk hn2 hn1) ?_ (by rw [hk]; rfl), rfl, len_chan ..⟩, hd6, ?_, rfl⟩, trivial⟩
 ·unfold fitsR actsB
  rw [if_neg (by omega), if_pos (by omega), if_neg (show ¬ (chanR src dst ch act le).act = 0 from h0)]
  have a1 : betweenB (chanR src dst ch act le).act 1 2 = true := by
   show betweenB act 1 2 = true
   unfold betweenB
   rw [decide_eq_true (show 1 <= act by omega), decide_eq_true (show act <= 2 by omega)]; rfl
  rw [a1, show indexB (chanR src dst ch act le).channel m.places.length = true from index_ok hx1, show indexB (chanR src dst ch act le).letter m.letters.length = true from index_ok hx2]; rfl
 ·exact leV_ag ⟨leV_refl _, leV_refl _, leV_refl _, leV_nil _ _, leV_nil _ _, leV_nil _ _, leV_refl _, leV_refl _, leV_refl _, leV_nil _ _, leV_nil _ _, leV_nil _ _, leV_nil _ _, leV_refl _, trivial⟩
theorem con_dRule4 (l : List Int) (s : DS) (m : MD) (hd : Dk l s) (hk : m.kind = 4) (hl : 1 <= m.letters.length /\ m.letters.length <= 6) (hv : 1 <= m.levels /\ m.levels <= 2) (h1 : 1 <= m.states.length /\ m.states.length <= 8) : RuleCon l s m := by
 refine RuleCon.mk ?_
 refine Con.intro Tryz.func61 rfl Tryz.ntmps61 Tryz.results61 (by kernel_rfl) (by simp) 1 (by simp) ?_
 have hn1 := nextV_lt (l := l) (s := s) (n := m.states.length) (by omega)
 have hd2 : Dk l (nextS l s m.states.length) := nextS_dk hd
 have hn2 := nextV_lt (l := l) (s := nextS l s m.states.length) (n := m.states.length) (by omega)
 have hd3 : Dk l (nextS l (nextS l s m.states.length) m.states.length) := nextS_dk hd2
 simp only [go_sem, hk]
 refine DrawK.news0 [(11, 3)] [14] [] 0 [4, 9] [] 12 (.one 12 .done) none (deckA l s) mixed (by kernel_rfl) (by kernel_rfl) (by kernel_rfl) (by simp only [go_sem]) (by simp only [go_sem]) ⟨by simp only [go_sem], by simp only [go_sem]⟩ ⟨by simp only [go_sem], by simp only [go_sem]⟩ ?_
 simp only [go_sem, List.length_map]
 refine EffK.mk (con_dNext l s m.states.length hd) (by simp only [go_sem]) (by simp only [go_sem]) (by simp only [go_sem]) (by simp only [go_sem]) ?_
 simp only [go_sem, List.length_map]
 refine EffK.mk (con_dNext l (nextS l s m.states.length) m.states.length hd2) (by simp only [go_sem]) (by simp only [go_sem]) (by simp only [go_sem]) (by simp only [go_sem]) ?_
 generalize nextV l s m.states.length = src at hn1
 generalize nextV l (nextS l s m.states.length) m.states.length = dst at hn2
 generalize nextS l (nextS l s m.states.length) m.states.length = s2 at hd3
 have hrep : List.replicate 14 AV.any = [.any, .any, .any, .any, .any, .any, .any, .any, .any, .any, .any, .any, .any, .any] := rfl
 simp only [go_sem, hrep]
 refine ⟨?_, trivial⟩
 have hw1 := wdV_low (l := l) (s := s2) (letters := m.letters.length) (most := m.levels) (by omega)
 have hw2 := wdV_len (l := l) (s := s2) (letters := m.letters.length) (most := m.levels) (by omega)
 have hd4 : Dk l (wdS l s2 m.letters.length m.levels) := wdS_dk hd3
 have hw3 := wdV_low (l := l) (s := wdS l s2 m.letters.length m.levels) (letters := m.letters.length) (most := m.levels) (by omega)
 have hw4 := wdV_len (l := l) (s := wdS l s2 m.letters.length m.levels) (letters := m.letters.length) (most := m.levels) (by omega)
 have hd5 : Dk l (wdS l (wdS l s2 m.letters.length m.levels) m.letters.length m.levels) := wdS_dk hd4
 refine DrawK.effs pathRow 0 [6, 14] [] 15 (.one 15 (.front 16 (.one 17 .done))) none (deckA l s2) mixed (by kernel_rfl) (by simp only [pathRow, permG, renO, List.getElem?_cons_zero, List.getElem?_cons_succ, Option.map_none]; exact rfl) (by kernel_rfl) (by kernel_rfl) (by simp only [go_sem]) (by simp only [go_sem]) ?_
 simp only [go_sem, List.length_map]
 refine EffK.mk (con_dWordF l s2 m.letters.length m.levels hd3 (by omega) (by omega)) (by simp only [go_sem]) (by simp only [go_sem]) (by simp only [go_sem]) (by simp only [go_sem]) ?_
 simp only [go_sem, List.length_map]
 refine EffK.mk (con_dWordF l (wdS l s2 m.letters.length m.levels) m.letters.length m.levels hd4 (by omega) (by omega)) (by simp only [go_sem]) (by simp only [go_sem]) (by simp only [go_sem]) (by simp only [go_sem]) ?_
 generalize wdV l (wdS l s2 m.letters.length m.levels) m.letters.length m.levels = q at hw3 hw4
 generalize wdS l (wdS l s2 m.letters.length m.levels) m.letters.length m.levels = s4 at hd5
 generalize wdV l s2 m.letters.length m.levels = p at hw1 hw2
 have hwl : IntKind.i64.wrap ((p.length : Int) + (q.length : Int)) = (p.length : Int) + (q.length : Int) := wrap_in (by omega) (by omega)
 have hlen : ∀ q' : List Int, q'.length <= 100 -> LenR (pathR src dst p q') := fun q' hq' => ⟨⟨by simp [pathR], by simp [pathR], by simp [pathR], by show p.length <= _; omega, by show q'.length <= _; omega, by simp [pathR], by simp [pathR]⟩, by show p.length <= _; omega, by show q'.length <= _; omega⟩
 have hfit : ∀ q' : List Int, (q'.length : Int) <= m.levels -> 0 < p.length + q'.length -> (∀ x ∈ q', 0 <= x /\ x < (m.letters.length : Int)) -> fitsR m (pathR src dst p q') = true := fun q' h3 h4 h5 => by
  unfold fitsR pathsB
  rw [if_neg (by omega), if_neg (by omega), if_pos hk]
  simp only [Bool.and_eq_true, decide_eq_true_eq, List.all_eq_true]
  exact ⟨⟨⟨⟨hw2, h3⟩, h4⟩, fun x hx => index_ok (hw1 x hx)⟩, fun x hx => index_ok (h5 x hx)⟩
 have hle : ∀ q' : List Int, leV (.ag [vStr emptyB, vi src, vi dst, .nil, .nil, .nil, vi 0, vi 0, vi 0, vs 0 p, vs 0 q', .nil, .nil, vi 0]) (vRule (pathR src dst p q')) := fun q' =>
  leV_ag ⟨leV_refl _, leV_refl _, leV_refl _, leV_nil _ _, leV_nil _ _, leV_nil _ _, leV_refl _, leV_refl _, leV_refl _, leV_refl _, leV_refl _, leV_nil _ _, leV_nil _ _, leV_refl _, trivial⟩
 simp only [go_sem, hwl]
 refine ⟨?_, trivial⟩
 by_cases h0 : (p.length : Int) + (q.length : Int) = 0
 ·have hb : ((p.length : Int) + (q.length : Int) == 0) = true := beq_iff_eq.2 h0
  simp only [go_sem, hb]
  exact ⟨pathR src dst p [0], s4, ⟨right_mk (ends_mk hn2 hn1) (hfit [0] (by show ((1 : Nat) : Int) <= _; omega) (by show 0 < p.length + 1; omega) fun x hx => by rw [List.mem_singleton] at hx; subst hx; omega) (by rw [hk]; rfl), rfl, hlen _ (by simp)⟩, hd5, hle [0], rfl⟩
 ·have hb : ((p.length : Int) + (q.length : Int) == 0) = false := beq_eq_false_iff_ne.2 h0
  simp only [go_sem, hb]
  exact ⟨pathR src dst p q, s4, ⟨right_mk (ends_mk hn2 hn1) (hfit q hw4 (by omega) hw3) (by rw [hk]; rfl), rfl, hlen _ (by omega)⟩, hd5, hle q, rfl⟩
theorem con_dRule5 (l : List Int) (s : DS) (m : MD) (hd : Dk l s) (hk : m.kind = 5) (hp : 1 <= m.places.length /\ m.places.length <= 6) (ha : 0 <= m.age /\ m.age <= 3) (h1 : 1 <= m.states.length /\ m.states.length <= 8) : RuleCon l s m := by
 refine RuleCon.mk ?_
 refine Con.intro Tryz.func61 rfl Tryz.ntmps61 Tryz.results61 (by kernel_rfl) (by simp) 1 (by simp) ?_
 have hn1 := nextV_lt (l := l) (s := s) (n := m.states.length) (by omega)
 have hd2 : Dk l (nextS l s m.states.length) := nextS_dk hd
 have hn2 := nextV_lt (l := l) (s := nextS l s m.states.length) (n := m.states.length) (by omega)
 have hd3 : Dk l (nextS l (nextS l s m.states.length) m.states.length) := nextS_dk hd2
 simp only [go_sem, hk]
 refine DrawK.news0 [(11, 3)] [14] [] 0 [4, 9] [] 12 (.one 12 .done) none (deckA l s) mixed (by kernel_rfl) (by kernel_rfl) (by kernel_rfl) (by simp only [go_sem]) (by simp only [go_sem]) ⟨by simp only [go_sem], by simp only [go_sem]⟩ ⟨by simp only [go_sem], by simp only [go_sem]⟩ ?_
 simp only [go_sem, List.length_map]
 refine EffK.mk (con_dNext l s m.states.length hd) (by simp only [go_sem]) (by simp only [go_sem]) (by simp only [go_sem]) (by simp only [go_sem]) ?_
 simp only [go_sem, List.length_map]
 refine EffK.mk (con_dNext l (nextS l s m.states.length) m.states.length hd2) (by simp only [go_sem]) (by simp only [go_sem]) (by simp only [go_sem]) (by simp only [go_sem]) ?_
 generalize nextV l s m.states.length = src at hn1
 generalize nextV l (nextS l s m.states.length) m.states.length = dst at hn2
 generalize nextS l (nextS l s m.states.length) m.states.length = s2 at hd3
 have hrep : List.replicate 14 AV.any = [.any, .any, .any, .any, .any, .any, .any, .any, .any, .any, .any, .any, .any, .any] := rfl
 simp only [go_sem, hrep]
 refine ⟨?_, trivial⟩
 have hx0 := nextV_lt (l := l) (s := s2) (n := 2) (by omega)
 have hd4 : Dk l (nextS l s2 2) := nextS_dk hd3
 refine CallU.boxes (i := 0) (is := []) (bx0 := [deckA l s2]) (con_dNext l s2 2 hd3) (by simp only [go_sem]) (by simp only [go_sem]) (by simp only [go_sem]) (by simp only [go_sem]) (by simp only [go_sem]) ?_
 rintro r b ⟨rfl, rfl⟩
 obtain ⟨tk, htk, htk2⟩ : ∃ tk : Nat, nextV l s2 2 = tk /\ tk <= 1 := ⟨(nextV l s2 2).toNat, by omega, by omega⟩
 rw [htk]
 generalize nextS l s2 2 = s3 at hd4
 have hd5 : Dk l (nextS l s3 8) := nextS_dk hd4
 simp only [go_sem]
 refine CallU.boxes (i := 0) (is := []) (bx0 := [deckA l s3]) (con_dOne l s3 8 hd4) (by simp only [go_sem]) (by simp only [go_sem]) (by simp only [go_sem]) (by simp only [go_sem]) (by simp only [go_sem]) ?_
 rintro r b ⟨rfl, rfl⟩
 generalize nextS l s3 8 = s4 at hd5
 have h22 : (((2 : Nat) : Int)) = 2 := rfl
 cases ho : oneV l s3 8
 ·simp only [go_sem]
  refine LoopK.intro (fun p : List (Int × Int × Int) × DS × Nat => ⟨168, [(0, .pb 0 0), (3, .pb 1 0), (4, .pb 2 0), (5, .pb 3 0), (6, vi m.places.length), (8, vi p.2.2)], [deckA l p.2.1, [vi 5, vss m.states, vss m.places, vss m.letters, vs 0 m.ranks, vi m.levels, vi m.age, .any, .any, .any],
    [vStr emptyB, vi 0, vi 0, .nil, .nil, .nil, vi 0, vi 0, vi 0, .nil, .nil, .nil, .nil, vi 0], [vStr emptyB, vi src, vi dst, .nil, .nil, .nil, vi 0, vi 0, vi 0, .nil, .nil, .sl 8512 3 (p.1.map vTake), .nil, vi 0]]⟩)
   (fun p => p.2.2) (fun p => p.1.length + p.2.2 <= 2 /\ Dk l p.2.1 /\ ∀ t ∈ p.1, GoodT m.places.length m.age t) ([], s4, tk) ⟨by show 0 + tk <= 2; omega, hd5, fun t ht => by cases ht⟩ ?_ ?_
  ·simp only [go_sem, vss, emptyB, List.map_nil]
   all_goals exact leV_nil _ _
  rintro ⟨L, s5, k⟩ ⟨h3, h4, h5⟩
  simp only at h3 h4 h5
  by_cases h : 0 < k
  ·have hk0 : (0 : Int) < (k : Int) := by omega
   have hwa : IntKind.i64.wrap (m.age + 2) = m.age + 2 := wrap_in (by omega) (by omega)
   have hwk : IntKind.i64.wrap ((k : Int) - 1) = ((k - 1 : Nat) : Int) := by rw [wrap_in (by omega) (by omega)]; omega
   have hx1 := nextV_lt (l := l) (s := s5) (n := m.age + 2) (by omega)
   have hd6 : Dk l (nextS l s5 (m.age + 2)) := nextS_dk h4
   simp only [go_sem, hk0, hwa]
   refine CallU.boxes (i := 0) (is := []) (bx0 := [deckA l s5]) (con_dNext l s5 (m.age + 2) h4) (by simp only [go_sem]) (by simp only [go_sem]) (by simp only [go_sem]) (by simp only [go_sem]) (by simp only [go_sem]) ?_
   rintro r b ⟨rfl, rfl⟩
   generalize nextV l s5 (m.age + 2) = lo at hx1
   generalize nextS l s5 (m.age + 2) = s6 at hd6
   have hx2 := nextV_lt (l := l) (s := s6) (n := m.places.length) (by omega)
   have hd7 : Dk l (nextS l s6 m.places.length) := nextS_dk hd6
   have hx3 := nextV_lt (l := l) (s := nextS l s6 m.places.length) (n := m.age + 2 - lo) (by omega)
   have hd8 : Dk l (nextS l (nextS l s6 m.places.length) (m.age + 2 - lo)) := nextS_dk hd7
   have hwb : IntKind.i64.wrap (m.age + 2 - lo) = m.age + 2 - lo := wrap_in (by omega) (by omega)
   simp only [go_sem]
   refine DrawK.effs0 0 [4, 13] [] 17 (.one 17 (.front 18 (.one 19 .done))) none (deckA l s6) mixed (by kernel_rfl) (by kernel_rfl) (by simp only [go_sem]) (by simp only [go_sem]) ?_
   simp only [go_sem]
   refine EffK.mk (con_dNext l s6 m.places.length hd6) (by simp only [go_sem]) (by simp only [go_sem]) (by simp only [go_sem]) (by simp only [go_sem]) ?_
   simp only [go_sem, hwa, hwb]
   refine EffK.mk (con_dNext l (nextS l s6 m.places.length) (m.age + 2 - lo) hd7) (by simp only [go_sem]) (by simp only [go_sem]) (by simp only [go_sem]) (by simp only [go_sem]) ?_
   generalize nextV l (nextS l s6 m.places.length) (m.age + 2 - lo) = df at hx3
   generalize nextS l (nextS l s6 m.places.length) (m.age + 2 - lo) = s8 at hd8
   generalize nextV l s6 m.places.length = pl at hx2
   have hwc : IntKind.i64.wrap (lo + df) = lo + df := wrap_in (by omega) (by omega)
   simp only [go_sem, hwc, hwk]
   refine ⟨⟨by simp only [roomFor]; omega, roundK.intro (L ++ [(pl, lo, lo + df)], s8, k - 1) ⟨by rw [List.length_append]; show L.length + 1 + (k - 1) <= 2; omega, hd8, fun t ht => ?_⟩ (by show k - 1 < k; omega) ?_⟩, trivial⟩
   ·rcases List.mem_append.1 ht with ht | ht
    ·exact h5 t ht
    ·rw [List.mem_singleton] at ht
     subst ht
     exact ⟨hx2, by show 0 <= lo; omega, by show lo <= lo + df; omega, by show lo + df <= m.age + 1; omega⟩
   ·simp only [go_sem, List.map_append, List.map_cons, List.map_nil, vTake]
  ·have hk0 : ¬ (0 : Int) < (k : Int) := by omega
   have hd6 : Dk l (nextS l s5 2) := nextS_dk h4
   simp only [go_sem, hk0]
   refine CallU.boxes (i := 0) (is := []) (bx0 := [deckA l s5]) (con_dOne l s5 2 h4) (by simp only [go_sem]) (by simp only [go_sem]) (by simp only [go_sem]) (by simp only [go_sem]) (by simp only [go_sem]) ?_
   rintro r b ⟨rfl, rfl⟩
   generalize nextS l s5 2 = s6 at hd6
   cases ho2 : oneV l s5 2
   ·simp only [go_sem]
    exact ⟨timeR src dst L [], s6, time_dealt hk hn1 hn2 (by omega) h5 (.inl rfl), hd6, time_le src dst (leV_nil _ _), rfl⟩
   ·have hx1 := nextV_lt (l := l) (s := s6) (n := m.places.length) (by omega)
    have hd7 : Dk l (nextS l s6 m.places.length) := nextS_dk hd6
    simp only [go_sem]
    refine CallU.boxes (i := 0) (is := []) (bx0 := [deckA l s6]) (con_dNext l s6 m.places.length hd6) (by simp only [go_sem]) (by simp only [go_sem]) (by simp only [go_sem]) (by simp only [go_sem]) (by simp only [go_sem]) ?_
    rintro r b ⟨rfl, rfl⟩
    simp only [go_sem]
    exact ⟨timeR src dst L [nextV l s6 m.places.length], nextS l s6 m.places.length, time_dealt hk hn1 hn2 (by omega) h5 (.inr ⟨_, rfl, hx1⟩), hd7, time_le src dst (leV_refl _), rfl⟩
 ·simp only [go_sem]
  refine LoopK.intro (fun p : List (Int × Int × Int) × DS × Nat => ⟨168, [(0, .pb 0 0), (3, .pb 1 0), (4, .pb 2 0), (5, .pb 3 0), (6, vi m.places.length), (8, vi p.2.2)], [deckA l p.2.1, [vi 5, vss m.states, vss m.places, vss m.letters, vs 0 m.ranks, vi m.levels, vi m.age, .any, .any, .any],
    [vStr emptyB, vi 0, vi 0, .nil, .nil, .nil, vi 0, vi 0, vi 0, .nil, .nil, .nil, .nil, vi 0], [vStr emptyB, vi src, vi dst, .nil, .nil, .nil, vi 0, vi 0, vi 0, .nil, .nil, .sl 8512 3 (p.1.map vTake), .nil, vi 0]]⟩)
   (fun p => p.2.2) (fun p => p.1.length + p.2.2 <= 2 /\ Dk l p.2.1 /\ ∀ t ∈ p.1, GoodT m.places.length m.age t) ([], s4, 2) ⟨by show 0 + 2 <= 2; omega, hd5, fun t ht => by cases ht⟩ ?_ ?_
  ·simp only [go_sem, vss, emptyB, List.map_nil, h22]
   all_goals exact leV_nil _ _
  rintro ⟨L, s5, k⟩ ⟨h3, h4, h5⟩
  simp only at h3 h4 h5
  by_cases h : 0 < k
  ·have hk0 : (0 : Int) < (k : Int) := by omega
   have hwa : IntKind.i64.wrap (m.age + 2) = m.age + 2 := wrap_in (by omega) (by omega)
   have hwk : IntKind.i64.wrap ((k : Int) - 1) = ((k - 1 : Nat) : Int) := by rw [wrap_in (by omega) (by omega)]; omega
   have hx1 := nextV_lt (l := l) (s := s5) (n := m.age + 2) (by omega)
   have hd6 : Dk l (nextS l s5 (m.age + 2)) := nextS_dk h4
   simp only [go_sem, hk0, hwa]
   refine CallU.boxes (i := 0) (is := []) (bx0 := [deckA l s5]) (con_dNext l s5 (m.age + 2) h4) (by simp only [go_sem]) (by simp only [go_sem]) (by simp only [go_sem]) (by simp only [go_sem]) (by simp only [go_sem]) ?_
   rintro r b ⟨rfl, rfl⟩
   generalize nextV l s5 (m.age + 2) = lo at hx1
   generalize nextS l s5 (m.age + 2) = s6 at hd6
   have hx2 := nextV_lt (l := l) (s := s6) (n := m.places.length) (by omega)
   have hd7 : Dk l (nextS l s6 m.places.length) := nextS_dk hd6
   have hx3 := nextV_lt (l := l) (s := nextS l s6 m.places.length) (n := m.age + 2 - lo) (by omega)
   have hd8 : Dk l (nextS l (nextS l s6 m.places.length) (m.age + 2 - lo)) := nextS_dk hd7
   have hwb : IntKind.i64.wrap (m.age + 2 - lo) = m.age + 2 - lo := wrap_in (by omega) (by omega)
   simp only [go_sem]
   refine DrawK.effs0 0 [4, 13] [] 17 (.one 17 (.front 18 (.one 19 .done))) none (deckA l s6) mixed (by kernel_rfl) (by kernel_rfl) (by simp only [go_sem]) (by simp only [go_sem]) ?_
   simp only [go_sem]
   refine EffK.mk (con_dNext l s6 m.places.length hd6) (by simp only [go_sem]) (by simp only [go_sem]) (by simp only [go_sem]) (by simp only [go_sem]) ?_
   simp only [go_sem, hwa, hwb]
   refine EffK.mk (con_dNext l (nextS l s6 m.places.length) (m.age + 2 - lo) hd7) (by simp only [go_sem]) (by simp only [go_sem]) (by simp only [go_sem]) (by simp only [go_sem]) ?_
   generalize nextV l (nextS l s6 m.places.length) (m.age + 2 - lo) = df at hx3
   generalize nextS l (nextS l s6 m.places.length) (m.age + 2 - lo) = s8 at hd8
   generalize nextV l s6 m.places.length = pl at hx2
   have hwc : IntKind.i64.wrap (lo + df) = lo + df := wrap_in (by omega) (by omega)
   simp only [go_sem, hwc, hwk]
   refine ⟨⟨by simp only [roomFor]; omega, roundK.intro (L ++ [(pl, lo, lo + df)], s8, k - 1) ⟨by rw [List.length_append]; show L.length + 1 + (k - 1) <= 2; omega, hd8, fun t ht => ?_⟩ (by show k - 1 < k; omega) ?_⟩, trivial⟩
   ·rcases List.mem_append.1 ht with ht | ht
    ·exact h5 t ht
    ·rw [List.mem_singleton] at ht
     subst ht
     exact ⟨hx2, by show 0 <= lo; omega, by show lo <= lo + df; omega, by show lo + df <= m.age + 1; omega⟩
   ·simp only [go_sem, List.map_append, List.map_cons, List.map_nil, vTake]
  ·have hk0 : ¬ (0 : Int) < (k : Int) := by omega
   have hd6 : Dk l (nextS l s5 2) := nextS_dk h4
   simp only [go_sem, hk0]
   refine CallU.boxes (i := 0) (is := []) (bx0 := [deckA l s5]) (con_dOne l s5 2 h4) (by simp only [go_sem]) (by simp only [go_sem]) (by simp only [go_sem]) (by simp only [go_sem]) (by simp only [go_sem]) ?_
   rintro r b ⟨rfl, rfl⟩
   generalize nextS l s5 2 = s6 at hd6
   cases ho2 : oneV l s5 2
   ·simp only [go_sem]
    exact ⟨timeR src dst L [], s6, time_dealt hk hn1 hn2 (by omega) h5 (.inl rfl), hd6, time_le src dst (leV_nil _ _), rfl⟩
   ·have hx1 := nextV_lt (l := l) (s := s6) (n := m.places.length) (by omega)
    have hd7 : Dk l (nextS l s6 m.places.length) := nextS_dk hd6
    simp only [go_sem]
    refine CallU.boxes (i := 0) (is := []) (bx0 := [deckA l s6]) (con_dNext l s6 m.places.length hd6) (by simp only [go_sem]) (by simp only [go_sem]) (by simp only [go_sem]) (by simp only [go_sem]) (by simp only [go_sem]) ?_
    rintro r b ⟨rfl, rfl⟩
    simp only [go_sem]
    exact ⟨timeR src dst L [nextV l s6 m.places.length], nextS l s6 m.places.length, time_dealt hk hn1 hn2 (by omega) h5 (.inr ⟨_, rfl, hx1⟩), hd7, time_le src dst (leV_refl _), rfl⟩
theorem con_dRule6 (l : List Int) (s : DS) (m : MD) (hd : Dk l s) (hk : m.kind = 6) (hp : 1 <= m.places.length /\ m.places.length <= 6) (h1 : 1 <= m.states.length /\ m.states.length <= 8) : RuleCon l s m := by
 refine RuleCon.mk ?_
 refine Con.intro Tryz.func61 rfl Tryz.ntmps61 Tryz.results61 (by kernel_rfl) (by simp) 1 (by simp) ?_
 have hn1 := nextV_lt (l := l) (s := s) (n := m.states.length) (by omega)
 have hd2 : Dk l (nextS l s m.states.length) := nextS_dk hd
 have hn2 := nextV_lt (l := l) (s := nextS l s m.states.length) (n := m.states.length) (by omega)
 have hd3 : Dk l (nextS l (nextS l s m.states.length) m.states.length) := nextS_dk hd2
 simp only [go_sem, hk]
 refine DrawK.news0 [(11, 3)] [14] [] 0 [4, 9] [] 12 (.one 12 .done) none (deckA l s) mixed (by kernel_rfl) (by kernel_rfl) (by kernel_rfl) (by simp only [go_sem]) (by simp only [go_sem]) ⟨by simp only [go_sem], by simp only [go_sem]⟩ ⟨by simp only [go_sem], by simp only [go_sem]⟩ ?_
 simp only [go_sem, List.length_map]
 refine EffK.mk (con_dNext l s m.states.length hd) (by simp only [go_sem]) (by simp only [go_sem]) (by simp only [go_sem]) (by simp only [go_sem]) ?_
 simp only [go_sem, List.length_map]
 refine EffK.mk (con_dNext l (nextS l s m.states.length) m.states.length hd2) (by simp only [go_sem]) (by simp only [go_sem]) (by simp only [go_sem]) (by simp only [go_sem]) ?_
 generalize nextV l s m.states.length = src at hn1
 generalize nextV l (nextS l s m.states.length) m.states.length = dst at hn2
 generalize nextS l (nextS l s m.states.length) m.states.length = s2 at hd3
 have hrep : List.replicate 14 AV.any = [.any, .any, .any, .any, .any, .any, .any, .any, .any, .any, .any, .any, .any, .any] := rfl
 simp only [go_sem, hrep]
 refine ⟨?_, trivial⟩
 have hV1 := smV_low (l := l) (s := s2) (most := 2) (by omega) m.places.length
 have hL1 := smV_len (l := l) (s := s2) (most := 2) m.places.length
 have hd4 : Dk l (smS l s2 2 m.places.length) := smS_dk hd3 _
 refine DrawK.effs branchRow 0 [5] [] 6 (.one 6 (.front 7 (.one 8 (.front 9 (.one 10 .done))))) none (deckA l s2) mixed (by kernel_rfl) (by simp only [branchRow, permG, renO, List.getElem?_cons_zero, List.getElem?_cons_succ, Option.map_none]; exact rfl) (by kernel_rfl) (by kernel_rfl) (by simp only [go_sem]) (by simp only [go_sem]) ?_
 simp only [go_sem]
 refine ⟨Nat.le_refl _, by omega, by omega, ?_⟩
 refine EffK.mk (con_dSmallF l s2 m.places.length 2 hd3 (by omega) (by omega)) (by simp only [go_sem]) (by simp only [go_sem]) (by simp only [go_sem]) (by simp only [go_sem]) ?_
 generalize smV l s2 2 m.places.length = gv at hV1 hL1
 generalize smS l s2 2 m.places.length = s3 at hd4
 have hsm : ∀ q : List Int, (∀ x ∈ q, 0 <= x /\ x <= 2) -> smallB q = true := fun q hq => by
  unfold smallB
  rw [List.all_eq_true]
  intro x hx
  have := hq x hx
  unfold betweenB
  rw [decide_eq_true (by omega), decide_eq_true (by omega)]; rfl
 have hch : ∀ (a b c : Int) (q : List Int), q.length = m.places.length -> (∀ x ∈ q, 0 <= x /\ x <= 2) -> changesB m.places.length (brR a b q gv c) = true := fun a b c q h3 h4 => by
  show (decide (q.length = m.places.length) && decide (gv.length = m.places.length) && smallB q && smallB gv) = true
  rw [decide_eq_true h3, decide_eq_true hL1, hsm q h4, hsm gv hV1]; rfl
 have hlen : ∀ (a b c : Int) (q : List Int), q.length = m.places.length -> LenR (brR a b q gv c) := fun a b c q h3 => ⟨⟨by show q.length <= _; omega, by show gv.length <= _; omega, by simp [brR], by simp [brR], by simp [brR], by simp [brR], by simp [brR]⟩, by simp [brR], by simp [brR]⟩
 have hfit : ∀ r, fitsR m r = branchB m.states.length m.places.length r := fun r => by unfold fitsR; rw [if_neg (by omega), if_neg (by omega), if_neg (by omega), if_neg (by omega)]
 have honly : ∀ (a b c : Int) (q : List Int), onlyR m.kind (brR a b q gv c) = brR a b q gv c := fun a b c q => by rw [hk]; rfl
 have hd5 : Dk l (nextS l s3 3) := nextS_dk hd4
 simp only [go_sem]
 refine ⟨?_, trivial⟩
 refine CallU.boxes (i := 0) (is := []) (bx0 := [deckA l s3]) (con_dOne l s3 3 hd4) (by simp only [go_sem]) (by simp only [go_sem]) (by simp only [go_sem]) (by simp only [go_sem]) (by simp only [go_sem]) ?_
 rintro r b ⟨rfl, rfl⟩
 generalize nextS l s3 3 = s4 at hd5
 cases ho : oneV l s3 3
 case true =>
  simp only [go_sem]
  refine ⟨brR (-1) dst (List.replicate m.places.length 0) gv (-1), s4, ⟨right_mk ?_ ?_ (honly ..), rfl, hlen _ _ _ _ (List.length_replicate ..)⟩, hd5, ?_, rfl⟩
  ·unfold endsR
   rw [show indexB (brR (-1) dst (List.replicate m.places.length 0) gv (-1)).dst m.states.length = true from index_ok hn2, hk]
   show (true && (indexB (-1) m.states.length || true)) = true
   rw [Bool.or_true]; rfl
  ·rw [hfit]
   unfold branchB
   rw [hch _ _ _ _ (List.length_replicate ..) (fun x hx => by rw [List.eq_of_mem_replicate hx]; omega)]
   show (true && true && (decide ((0 : Int) <= -1) || (true && (List.replicate m.places.length (0 : Int)).all fun x => x == 0))) = true
   have : ((List.replicate m.places.length (0 : Int)).all fun x => x == 0) = true := List.all_eq_true.2 fun x hx => by rw [List.eq_of_mem_replicate hx]; rfl
   rw [this]; rfl
  ·have e : List.replicate m.places.length (AV.sc (.int .i64 0)) = (List.replicate m.places.length (0 : Int)).map vi := by rw [List.map_replicate]; rfl
   rw [e]
   exact leV_ag ⟨leV_refl _, leV_refl _, leV_refl _, leV_refl _, leV_refl _, leV_nil _ _, leV_refl _, leV_refl _, leV_refl _, leV_nil _ _, leV_nil _ _, leV_nil _ _, leV_nil _ _, leV_refl _, trivial⟩
 have hV2 := smV_low (l := l) (s := s4) (most := 1) (by omega) m.places.length
 have hL2 := smV_len (l := l) (s := s4) (most := 1) m.places.length
 have hd6 : Dk l (smS l s4 1 m.places.length) := smS_dk hd5 _
 simp only [go_sem]
 refine CallU.boxes (i := 0) (is := []) (bx0 := [deckA l s4]) (con_dSmallF l s4 m.places.length 1 hd5 (by omega) (by omega)) (by simp only [go_sem]) (by simp only [go_sem]) (by simp only [go_sem]) (by simp only [go_sem]) (by simp only [go_sem]) ?_
 rintro r b ⟨rfl, rfl⟩
 generalize smV l s4 1 m.places.length = nd at hV2 hL2
 generalize smS l s4 1 m.places.length = s5 at hd6
 have hws : IntKind.i64.wrap ((m.states.length : Int) + 1) = (m.states.length : Int) + 1 := wrap_in (by omega) (by omega)
 have hx := nextV_lt (l := l) (s := s5) (n := (m.states.length : Int) + 1) (by omega)
 have hd7 : Dk l (nextS l s5 ((m.states.length : Int) + 1)) := nextS_dk hd6
 simp only [go_sem, hws]
 refine CallU.boxes (i := 0) (is := []) (bx0 := [deckA l s5]) (con_dNext l s5 ((m.states.length : Int) + 1) hd6) (by simp only [go_sem]) (by simp only [go_sem]) (by simp only [go_sem]) (by simp only [go_sem]) (by simp only [go_sem]) ?_
 rintro r b ⟨rfl, rfl⟩
 generalize nextV l s5 ((m.states.length : Int) + 1) = sec at hx
 generalize nextS l s5 ((m.states.length : Int) + 1) = s6 at hd7
 have hwx : IntKind.i64.wrap (sec - 1) = sec - 1 := wrap_in (by omega) (by omega)
 simp only [go_sem, hwx]
 refine ⟨brR src dst nd gv (sec - 1), s6, ⟨right_mk (ends_mk hn2 hn1) ?_ (honly ..), rfl, hlen _ _ _ _ hL2⟩, hd7, ?_, rfl⟩
 ·rw [hfit]
  unfold branchB
  rw [hch _ _ _ _ hL2 (fun x hx => by have := hV2 x hx; omega)]
  have e1 : (sec - 1 == -1 || indexB (sec - 1) m.states.length) = true := by
   by_cases h0 : sec = 0
   ·rw [h0]; rfl
   ·rw [index_ok (by omega), Bool.or_true]
  show (true && (sec - 1 == -1 || indexB (sec - 1) m.states.length) && (decide (0 <= src) || _)) = true
  rw [e1, decide_eq_true hn1.1]; rfl
 ·exact leV_ag ⟨leV_refl _, leV_refl _, leV_refl _, leV_refl _, leV_refl _, leV_nil _ _, leV_refl _, leV_refl _, leV_refl _, leV_nil _ _, leV_nil _ _, leV_nil _ _, leV_nil _ _, leV_refl _, trivial⟩
def beginsF (m : MD) : Bool := if m.kind = 6 then m.start.n == 0 && m.start.kids.length == 0 else validV (typeM m) m.start
def beginsTree : Tr := .front 2 (.alt (.one 0 (.alt (.one 1 (.one 3 (.one 4 (.one 5 .done)))) (.one 3 (.one 1 (.one 4 (.one 5 .done)))))) (.one 3 (.one 0 (.one 1 (.one 4 (.one 5 .done))))))
theorem TD.Ok.leaf {k s : Int} {r : List Int} (h : r.length <= 1000000) : (TD.mk k s r []).Ok := .mk _ _ _ _ h (by simp) (fun x hx => by cases hx)
theorem TD.Ok.parts1 {k s : Int} {l : List TD} (hl : l.length <= 1000000) (h : ∀ x ∈ l, x.Ok) : (TD.mk k s [] l).Ok := .mk _ _ _ _ (by simp) hl h
theorem label_ok (n : Int) : (labelT n).Ok := .leaf (by simp)
theorem list_ok {k : Int} {t : TD} (h : t.Ok) : (listT k t).Ok := .parts1 (by simp) (fun x hx => by rw [List.mem_singleton] at hx; subst hx; exact h)
theorem prod_ok {l : List TD} (hl : l.length <= 1000000) (h : ∀ x ∈ l, x.Ok) : (prodT l).Ok := .parts1 hl h
theorem two_ok {a b : TD} (ha : a.Ok) (hb : b.Ok) : (prodT [a, b]).Ok := prod_ok (by simp) fun x hx => by
 simp only [List.mem_cons, List.not_mem_nil, or_false] at hx
 rcases hx with rfl | rfl <;> assumption
theorem nodes_ok (a : Int) : ∀ n, (nodesT a n).Ok
 | 0 => list_ok (label_ok a)
 | 1 => list_ok (label_ok a)
 | n + 2 => list_ok (two_ok (label_ok a) (nodes_ok a (n + 1)))
theorem type_ok {m : MD} (h : SizeM m) (hp : m.places.length <= 999999) : (typeM m).Ok := by
 unfold typeM partsM
 refine prod_ok ?_ fun x hx => ?_
 ·rw [List.length_cons]
  split
  ·simp
  ·split
   ·simp
   ·rw [List.length_replicate]; omega
 ·rcases List.mem_cons.1 hx with rfl | hx
  ·exact label_ok _
  ·split at hx
   ·rw [List.mem_singleton] at hx; subst hx; exact nodes_ok _ _
   ·split at hx
    ·rw [List.mem_singleton] at hx; subst hx; exact list_ok (two_ok (label_ok _) (label_ok _))
    ·rw [List.eq_of_mem_replicate hx]
     unfold placeT
     split
     ·exact list_ok (label_ok _)
     ·split
      ·exact .leaf h.ranks
      ·exact .leaf (by simp)
theorem con_typedG (m : MD) (h : SizeM m) : Con Tryz.prog 85 [vM m] [] fun r _ => r = vT (typeM m) := by
 by_cases h4 : m.kind = 4
 ·refine ((con_typed4 m h h4).freezeR fun _ => true).weak fun r b ⟨r1, h3, h6⟩ => ?_
  subst h3; subst h6
  refine ⟨_, rfl, ?_⟩
  have e : typeM m = .mk 3 0 [] [labelT m.states.length, nodesT m.letters.length m.levels.toNat] := by unfold typeM partsM prodT; rw [if_pos h4]
  rw [e]
  exact vT_parts 3 0 [labelT m.states.length, nodesT m.letters.length m.levels.toNat]
 by_cases h5 : m.kind = 5
 ·refine ((con_typed5 m h h5).freezeR fun _ => true).weak fun r b ⟨r1, h3, h6⟩ => ?_
  subst h3; subst h6
  refine ⟨_, rfl, ?_⟩
  have e : typeM m = .mk 3 0 [] [labelT m.states.length, listT 5 (prodT [labelT m.places.length, labelT (m.age + 2)])] := by unfold typeM partsM prodT; rw [if_neg h4, if_pos h5]
  rw [e]
  exact vT_parts 3 0 [labelT m.states.length, listT 5 (prodT [labelT m.places.length, labelT (m.age + 2)])]
 exact con_typedA m h h4 h5
theorem con_beginsG (m : MD) (h : SizeM m) (hp : m.places.length <= 999999) (hs : m.start.Ok) : Con Tryz.prog 71 [vM m] [] fun r _ => r = vb (beginsF m) := by
 refine Con.intro Tryz.func71 rfl Tryz.ntmps71 Tryz.results71 (by kernel_rfl) (by simp) 1 (by simp) ?_
 unfold beginsF
 by_cases h6 : m.kind = 6
 ·have b6 : (m.kind == 6) = true := beq_iff_eq.2 h6
  have hz : ((m.start.kids.length : Int) == 0) = (m.start.kids.length == 0) := zero_len _
  rw [if_pos h6]
  cases h0 : m.start.n == 0
  ·simp only [go_sem, cM, vss, b6, h0, Bool.false_and]
  ·simp only [go_sem, cM, vss, b6, h0, hz, List.length_map, Bool.true_and]
 have b6 : (m.kind == 6) = false := beq_eq_false_iff_ne.2 h6
 rw [if_neg h6]
 have ct := con_typedG m h
 have cv := con_oValid (typeM m) m.start (type_ok h hp) hs
 have e1 := vT_eq (typeM m)
 rw [e1] at ct cv
 rw [vV_eq] at cv
 simp only [go_sem, cM, vss, b6]
 refine DrawK.meet ⟨22, [(1, .pb 0 0), (2, vb (validV (typeM m) m.start))], [cM m]⟩ ?_ ?_
 ·refine DrawK.tree beginsTree mixed (by kernel_rfl) ?_
  unfold beginsTree
  repeat' (first | with_reducible apply andK_mk | (refine CallU.free ct (by simp only [go_sem]) ?_ ?_; (· (simp only [go_sem, vM, cM, vss]; done)); rintro x bx rfl) | (refine CallU.free cv (by simp only [go_sem]) ?_ ?_; (· (simp only [go_sem]; done)); rintro x bx rfl) | simp only [go_sem, cM, vss])
 ·simp only [go_sem]
structure LenM (m : MD) : Prop where
 names : (namesOf m).length <= 1000000
 sizes : ∀ s ∈ namesOf m, s.size <= 9223372036854775806
 ranks : m.ranks.length <= 1000000
 rules : ∀ r ∈ m.rules, LenR r
 start : m.start.Ok
def checkF (m : MD) : Int :=
 if betweenB m.kind 1 6 = false then 15 else if sizedB m = false then 1 else if rankedB m = false then 14 else if namesB (namesOf m) = false then 13
 else if (m.rules.any fun r => !rightR m r) = true then 16 else if beginsF m = false then 17 else 0
theorem names_lens {m : MD} (h : LenM m) : m.states.length <= 1000000 /\ m.places.length <= 1000000 /\ m.letters.length <= 1000000 /\ m.rules.length <= 1000000 := by
 have := h.names
 unfold namesOf at this
 simp only [List.length_append, List.length_map] at this
 omega
theorem sized_lim {m : MD} (h : sizedB m = true) : 1 <= m.states.length /\ (m.kind = 4 -> 0 <= m.levels /\ m.levels <= 100) /\ (m.kind = 5 -> 0 <= m.age /\ m.age <= 100) /\ (m.kind = 3 -> 1 <= m.letters.length) := by
 unfold sizedB betweenB at h
 simp only [Bool.and_eq_true, decide_eq_true_eq] at h
 obtain ⟨⟨⟨⟨⟨h1, h2⟩, h3⟩, h4⟩, h5⟩, h6⟩ := h
 refine ⟨by omega, fun hk => ?_, fun hk => ?_, fun hk => ?_⟩
 ·rw [hk] at h5
  have : lim 4 4 = 1 /\ lim 4 5 = 2 := by decide
  omega
 ·rw [hk] at h6
  have : lim 5 6 = 0 /\ lim 5 7 = 3 := by decide
  omega
 ·rw [hk] at h4
  have : lim 3 2 = 1 := by decide
  omega
theorem sized_size {m : MD} (h : LenM m) (hs : sizedB m = true) (hr : rankedB m = true) : SizeM m /\ m.places.length <= 999999 := by
 have hl := names_lens h
 have hz := sized_lim hs
 refine ⟨⟨hl.1, hl.2.1, hl.2.2.1, h.ranks, hz.2.1, hz.2.2.1, fun hk => ?_⟩, ?_⟩
 ·unfold rankedB at hr
  rw [if_pos hk, Bool.and_eq_true, decide_eq_true_eq] at hr
  have := hz.2.2.2 hk
  omega
 ·unfold sizedB betweenB at hs
  simp only [Bool.and_eq_true, decide_eq_true_eq] at hs
  have h3 := hs.1.1.1.2.2
  have hlim : ∀ k : Int, lim k 1 <= 6 := fun k => by
   unfold lim limF
   split
   ·decide
   ·split
    ·decide
    ·split <;> decide
  have := hlim m.kind
  omega
theorem con_check1G (m : MD) (r : RD) (h : RightM m) (hr : LenR r) : Con Tryz.prog 69 [vRule r, .fp (cM m) 0] [] fun x _ => x = .sc (.bool (!rightR m r)) := by
 refine Con.intro Tryz.func69 rfl Tryz.ntmps69 Tryz.results69 (by kernel_rfl) (by simp) 1 (by simp) ?_
 simp only [go_sem]
 refine CallU.free (con_rightG m r h hr) (by simp only [go_sem]) (by simp only [go_sem]) ?_
 rintro x bx rfl
 simp only [go_sem]
theorem con_CheckG (m : MD) (h : LenM m) : Con Tryz.prog 21 [vM m] [] fun r _ => r = vi (checkF m) := by
 refine Con.intro Tryz.func21 rfl Tryz.ntmps21 Tryz.results21 (by kernel_rfl) (by simp) 1 (by simp) ?_
 have hl := names_lens h
 unfold checkF
 simp only [go_sem]
 refine CallU.free (con_between m.kind 1 6) (by simp only [go_sem]) (by simp only [go_sem]) ?_
 rintro r bx rfl
 cases h1 : betweenB m.kind 1 6
 ·simp only [go_sem, if_true]
 simp only [go_sem, if_false]
 refine CallU.free (con_sized m) (by simp only [go_sem]) (by simp only [go_sem]) ?_
 rintro r bx rfl
 cases h2 : sizedB m
 ·simp only [go_sem, if_true]
 simp only [go_sem, if_false]
 refine CallU.free (con_ranked m (by have := h.ranks; omega)) (by simp only [go_sem]) (by simp only [go_sem]) ?_
 rintro r bx rfl
 cases h3 : rankedB m
 ·simp only [go_sem, if_true]
 have hz := sized_lim h2
 have hsz := sized_size h h2 h3
 have hRM : RightM m := ⟨hl.1, hl.2.1, hl.2.2.1, fun hk => by have := hz.2.2.1 hk; omega⟩
 simp only [go_sem, if_false]
 refine CallU.free (con_named m hz.1 h.names h.sizes) (by simp only [go_sem]) (by simp only [go_sem]) ?_
 rintro r bx rfl
 cases h4 : namesB (namesOf m)
 ·simp only [go_sem, if_true]
 simp only [go_sem, if_false]
 refine CallU.look (con_containsRule m.rules 69 [.fp (cM m) 0] (fun r => !rightR m r) (by simp only [go_sem]) (fun r hr => con_check1G m r hRM (h.rules r hr)) (by omega)) (by simp only [go_sem]) (by simp only [go_sem]) ?_
 rintro r bx rfl
 cases h5 : m.rules.any fun r => !rightR m r
 case true => simp only [go_sem, if_true]
 simp only [go_sem, if_false]
 refine CallU.free (con_beginsG m hsz.1 hsz.2 h.start) (by simp only [go_sem]) (by simp only [go_sem]) ?_
 rintro r bx rfl
 cases h6 : beginsF m
 ·simp only [go_sem, if_true]
 ·simp only [go_sem, Bool.true_eq_false, if_false]
def confG (m : MD) (c : CV) : Bool := decide (checkF m = 0) && validV (typeM m) c
theorem checkF_zero {m : MD} (h : checkF m = 0) : betweenB m.kind 1 6 = true /\ sizedB m = true /\ rankedB m = true /\ namesB (namesOf m) = true /\ (∀ r ∈ m.rules, rightR m r = true) /\ beginsF m = true := by
 unfold checkF at h
 cases h1 : betweenB m.kind 1 6 <;> simp only [h1, if_true, Bool.true_eq_false, if_false] at h
 ·omega
 cases h2 : sizedB m <;> simp only [h2, if_true, Bool.true_eq_false, if_false] at h
 ·omega
 cases h3 : rankedB m <;> simp only [h3, if_true, Bool.true_eq_false, if_false] at h
 ·omega
 cases h4 : namesB (namesOf m) <;> simp only [h4, if_true, Bool.true_eq_false, if_false] at h
 ·omega
 cases h5 : m.rules.any fun r => !rightR m r <;> simp only [h5, if_true, Bool.false_eq_true, if_false] at h
 ·cases h6 : beginsF m <;> simp only [h6, if_true, Bool.true_eq_false, if_false] at h
  ·omega
  ·refine ⟨rfl, rfl, rfl, rfl, fun r hr => ?_, rfl⟩
   have := List.any_eq_false.1 h5 r hr
   simpa using this
 ·omega
theorem checkF_ne {m : MD} (h : checkF m ≠ 0) : (checkF m == 0) = false := beq_eq_false_iff_ne.2 h
theorem con_ValidG (m : MD) (c : CV) (h : LenM m) (hc : c.Ok) : Con Tryz.prog 37 [vM m, vV c] [] fun r _ => r = vb (confG m c) := by
 have e0 := vV_eq c
 have cc := con_CheckG m h
 by_cases h0 : checkF m = 0
 ·have hz := checkF_zero h0
  have hsz := sized_size h hz.2.1 hz.2.2.1
  have ct := con_typedG m hsz.1
  have cv := con_oValid (typeM m) c (type_ok hsz.1 hsz.2) hc
  have e1 := vT_eq (typeM m)
  have hg : confG m c = validV (typeM m) c := by unfold confG; rw [decide_eq_true h0, Bool.true_and]
  rw [h0] at cc
  rw [e1] at ct cv
  rw [hg]
  rw [e0] at cv ⊢
  refine Con.intro Tryz.func37 rfl Tryz.ntmps37 Tryz.results37 (by kernel_rfl) (by simp) 2 (by simp) ?_
  simp only [go_sem]
  refine DrawK.walk 10 mixed (by kernel_rfl) ?_
  simp only [go_sem]
  refine CallY.mk cc (by simp only [go_sem, vM, cM, vss]) (by simp only [go_sem]) (.inl (by simp only [go_sem])) ?_
  simp only [go_sem]
  refine CallY.mk ct (by simp only [go_sem, vM, cM, vss]) (by simp only [go_sem]) (.inl (by simp only [go_sem])) ?_
  simp only [go_sem]
  refine CallY.mk cv (by simp only [go_sem]) (by simp only [go_sem]) (.inr (by simp only [go_sem])) ?_
  simp only [go_sem]
 ·have hg : confG m c = false := by unfold confG; rw [decide_eq_false h0, Bool.false_and]
  have hn := checkF_ne h0
  rw [hg, e0]
  refine Con.intro Tryz.func37 rfl Tryz.ntmps37 Tryz.results37 (by kernel_rfl) (by simp) 1 (by simp) ?_
  simp only [go_sem]
  refine DrawK.walk 10 mixed (by kernel_rfl) ?_
  simp only [go_sem]
  refine CallY.mk cc (by simp only [go_sem, vM, cM, vss]) (by simp only [go_sem]) (.inl (by simp only [go_sem])) ?_
  simp only [go_sem, hn]
theorem limF_1 : limF 1 = [1, 6, 0, 0, 0, 0, 0, 0] := rfl
theorem limF_2 : limF 2 = [1, 2, 1, 6, 0, 0, 0, 0] := rfl
theorem limF_3 : limF 3 = [1, 2, 1, 6, 0, 0, 0, 0] := rfl
theorem limF_4 : limF 4 = [0, 0, 1, 6, 1, 2, 0, 0] := rfl
theorem limF_5 : limF 5 = [1, 6, 0, 0, 0, 0, 0, 3] := rfl
theorem limF_6 : limF 6 = [1, 6, 0, 0, 0, 0, 0, 0] := rfl
theorem between_zero (x : Int) : betweenB x 0 0 = (x == 0) := by
 unfold betweenB
 rw [Bool.eq_iff_iff]
 simp only [Bool.and_eq_true, decide_eq_true_eq, beq_iff_eq]
 omega
theorem kind_cases {k : Int} (h : betweenB k 1 6 = true) : k = 1 \/ k = 2 \/ k = 3 \/ k = 4 \/ k = 6 \/ k = 5 := by
 unfold betweenB at h
 simp only [Bool.and_eq_true, decide_eq_true_eq] at h
 omega
theorem con_rnumbersG (m : MD) (hb : betweenB m.kind 1 6 = true) : Con Tryz.prog 73 [vM m] [] fun r _ => r = vb (sizedB m) := by
 refine Con.intro Tryz.func73 rfl Tryz.ntmps73 Tryz.results73 (by kernel_rfl) (by simp) 0 (by simp) ?_
 have b1 := con_rbetween m.states.length 1 8
 have b2 := con_rbetween m.places.length (lim m.kind 0) (lim m.kind 1)
 have b3 := con_rbetween m.letters.length (lim m.kind 2) (lim m.kind 3)
 have b4 := con_rbetween m.levels (lim m.kind 4) (lim m.kind 5)
 have b5 := con_rbetween m.age 0 3
 unfold sizedB vM cM
 rcases kind_cases hb with hk | hk | hk | hk | hk | hk
 all_goals
  simp only [hk, lim, limF_1, limF_2, limF_3, limF_4, limF_5, limF_6, List.getD_cons_zero, List.getD_cons_succ] at b2 b3 b4 ⊢
  simp only [go_sem, vss, List.length_map]
  refine CallU.free b1 (by simp only [go_sem]) (by simp only [go_sem]) ?_
  rintro r bx rfl
  cases h1 : betweenB m.states.length 1 8
  ·simp only [go_sem, Bool.false_and]
  rw [Bool.true_and]
  simp only [go_sem, List.length_map]
  refine CallU.free b2 (by simp only [go_sem]) (by simp only [go_sem]) ?_
  rintro r bx rfl
  rw [Bool.and_comm (decide _) (betweenB _ _ _)]
  generalize betweenB m.places.length _ _ = p2
  cases p2
  ·simp only [go_sem, Bool.false_and]
  rw [Bool.true_and]
  by_cases h4 : (12 : Int) < m.rules.length
  ·have h5 : ¬ m.rules.length <= 12 := by omega
   simp only [go_sem, List.length_map, h4, h5, decide_false, Bool.false_and]
  have h5 : m.rules.length <= 12 := by omega
  rw [decide_eq_true h5, Bool.true_and]
  simp only [go_sem, List.length_map, h4]
  refine CallU.free b3 (by simp only [go_sem]) (by simp only [go_sem]) ?_
  rintro r bx rfl
  generalize betweenB m.letters.length _ _ = p3
  cases p3
  ·simp only [go_sem, Bool.false_and]
  rw [Bool.true_and]
  simp only [go_sem]
  refine CallU.free b4 (by simp only [go_sem]) (by simp only [go_sem]) ?_
  rintro r bx rfl
  generalize betweenB m.levels _ _ = p4
  cases p4
  ·simp only [go_sem, Bool.false_and]
  rw [Bool.true_and]
  simp only [go_sem]
 ·rw [between_zero]
 ·rw [between_zero]
 ·rw [between_zero]
 ·rw [between_zero]
 ·rw [between_zero]
 ·refine CallU.free b5 (by simp only [go_sem]) (by simp only [go_sem]) ?_
  rintro r bx rfl
  simp only [go_sem]
theorem all_bad {α : Type} [Inhabited α] {l : List α} {p : α -> Bool} {i : Nat} (h : i < l.length) (hb : p l[i]! = false) : l.all p = false := by
 rw [List.all_eq_false]
 refine ⟨l[i]!, ?_, by rw [hb]; simp⟩
 rw [getElem!_pos l i h]; exact List.getElem_mem h
theorem all_ok {α : Type} [Inhabited α] {l : List α} {p : α -> Bool} (h : ∀ i, i < l.length -> p l[i]! = true) : l.all p = true := by
 rw [List.all_eq_true]
 intro x hx
 obtain ⟨i, hi, rfl⟩ := List.getElem_of_mem hx
 have := h i hi
 rwa [getElem!_pos l i hi] at this
theorem con_rranksG (m : MD) (hl : m.ranks.length <= 1000000) : Con Tryz.prog 74 [vM m] [] fun r _ => r = vb (rankedB m) := by
 refine Con.intro Tryz.func74 rfl Tryz.ntmps74 Tryz.results74 (by kernel_rfl) (by simp) 0 (by simp) ?_
 unfold rankedB
 by_cases k3 : m.kind = 3
 case neg =>
  have b3 : (m.kind != 3) = true := bne_iff_ne.2 k3
  have hz : ((m.ranks.length : Int) == 0) = (m.ranks.length == 0) := zero_len _
  rw [if_neg k3]
  simp only [go_sem, vM, cM, vss, b3, hz, List.length_map]
 rw [if_pos k3]
 have b3 : (m.kind != 3) = false := by rw [k3]; rfl
 by_cases hq : m.ranks.length = m.letters.length
 case neg =>
  have hq' : ((m.ranks.length : Int) != (m.letters.length : Int)) = true := bne_iff_ne.2 (by omega)
  rw [decide_eq_false hq, Bool.false_and]
  simp only [go_sem, vM, cM, vss, b3, hq', List.length_map]
 have hq' : ((m.ranks.length : Int) != (m.letters.length : Int)) = false := by
  rw [hq]; simp
 rw [decide_eq_true hq, Bool.true_and]
 simp only [go_sem, vM, cM, vss, b3, hq', List.length_map]
 refine LoopK.intro (fun i : Nat => ⟨32, [(1, .pb 0 0), (2, vb false), (3, vi i)], [[vi m.kind, .sl 0 1 (m.states.map vStr), .sl 0 1 (m.places.map vStr), .sl 0 1 (m.letters.map vStr), vs 0 m.ranks, vi m.levels, vi m.age, .sl 0 14 (m.rules.map vRule), vi m.start.n, .sl 0 2 (m.start.kids.map vV)]]⟩)
  (fun i => m.ranks.length - i) (fun i => i <= m.ranks.length /\ ∀ j, j < i -> betweenB m.ranks[j]! 0 5 = true) 0 ⟨by omega, fun j hj => by omega⟩ ?_ ?_
 ·simp only [go_sem, vs]
 rintro i ⟨hi, hj⟩
 by_cases h : i < m.ranks.length
 ·have hg := getv h
  have hw : IntKind.i64.wrap (i + 1) = i + 1 := wrap_in (by omega) (by omega)
  simp only [go_sem, h, hg]
  refine CallU.free (con_rbetween m.ranks[i]! 0 5) (by simp only [go_sem]) (by simp only [go_sem]) ?_
  rintro r bx rfl
  cases hc : betweenB m.ranks[i]! 0 5
  ·have hb := all_bad (p := fun r => betweenB r 0 5) h hc
   rw [hb]
   simp only [go_sem]
  simp only [go_sem, hw]
  refine roundK.intro (i + 1) ⟨by omega, fun j hj2 => ?_⟩ (by omega) ?_
  ·by_cases e : j = i
   ·rw [e]; exact hc
   ·exact hj j (by omega)
  simp only [go_sem]
 ·have hb := all_ok (l := m.ranks) (p := fun r => betweenB r 0 5) fun j hj2 => hj j (by omega)
  rw [hb]
  simp only [go_sem, h]
theorem con_rwordG (s : ByteArray) (hs : s.size <= 9223372036854775806) : Con Tryz.prog 126 [vStr s] [] fun r _ => r = vb (wordB s) := by
 refine Con.intro Tryz.func126 rfl Tryz.ntmps126 Tryz.results126 (by kernel_rfl) (by simp) 0 (by simp) ?_
 unfold wordB
 rw [ByteArray.toList_eq]
 simp only [go_sem]
 refine LoopK.intro (fun i : Nat => ⟨33, [(0, vStr s), (3, vi i)], []⟩) (fun i => s.size - i) (fun i => i <= s.size /\ ∀ j, j < i -> partB s.data.toList[j]! = true) 0 ⟨by omega, fun j hj => by omega⟩ ?_ ?_
 ·simp only [go_sem]
 rintro i ⟨hi, hj⟩
 by_cases h : i < s.size
 ·have hg := ba_get h
  have hw : IntKind.i64.wrap (i + 1) = i + 1 := wrap_in (by omega) (by omega)
  have h5 : i < s.data.toList.length := by rw [ba_len]; exact h
  simp only [go_sem, h, hg]
  refine CallU.free (con_rletter s.data.toList[i]!) (by simp only [go_sem]) (by simp only [go_sem]) ?_
  rintro r bx rfl
  cases hc : partB s.data.toList[i]!
  ·have hb := all_bad (p := partB) h5 hc
   rw [hb, Bool.and_false]
   simp only [go_sem]
  simp only [go_sem, hw]
  refine roundK.intro (i + 1) ⟨by omega, fun j hj2 => ?_⟩ (by omega) ?_
  ·by_cases e : j = i
   ·rw [e]; exact hc
   ·exact hj j (by omega)
  simp only [go_sem]
 ·have hb := all_ok (l := s.data.toList) (p := partB) fun j hj2 => hj j (by rw [ba_len] at hj2; omega)
  rw [hb, Bool.and_true]
  by_cases h1 : 0 < s.size
  ·have e0 : s.get! 0 = s.data.toList[0]! := by
    have h5 : 0 < s.data.toList.length := by rw [ba_len]; exact h1
    rw [getElem!_pos s.data.toList 0 h5, Array.getElem_toList]
    show s.data[0]! = _
    rw [getElem!_pos s.data 0 h1]
   have hg := ba_get h1
   have g1 : (1 : Int) <= (s.size : Int) := by omega
   rw [e0, letterB_eq, decide_eq_true h1, Bool.true_and]
   by_cases h2 : s.size <= 12
   ·have g2 : (s.size : Int) <= 12 := by omega
    rw [decide_eq_true h2, Bool.true_and]
    by_cases h3 : (97 : Int) <= (s.data.toList[0]!.toNat : Int) <;> by_cases h4 : (s.data.toList[0]!.toNat : Int) <= 122 <;>
     simp only [go_sem, h, hg, g1, g2, h3, h4, decide_true, decide_false, Bool.and_true, Bool.and_false]
   ·have g2 : ¬ (s.size : Int) <= 12 := by omega
    rw [decide_eq_false h2, Bool.false_and]
    simp only [go_sem, h, g1, g2]
  ·have g1 : ¬ (1 : Int) <= (s.size : Int) := by omega
   rw [decide_eq_false h1, Bool.false_and, Bool.false_and]
   simp only [go_sem, h, g1]
theorem con_rkeywordG (s : ByteArray) : Con Tryz.prog 127 [vStr s] [] fun r _ => r = vb (keywordB s) := by
 cases hk : keywordB s
 ·exact con_rkeyword s hk
 have hq : ∃ i, i < kwL.length /\ (kwL[i]!.toList == s.toList) = true := by
  unfold keywordB at hk
  obtain ⟨x, hx, he⟩ := List.any_eq_true.1 hk
  obtain ⟨i, hi, rfl⟩ := List.getElem_of_mem hx
  refine ⟨i, hi, ?_⟩
  rw [getElem!_pos kwL i hi]
  rw [beq_iff_eq] at he ⊢
  exact he.symm
 obtain ⟨k, hk1, hk2⟩ := hq
 refine Con.intro Tryz.func127 rfl Tryz.ntmps127 Tryz.results127 (by kernel_rfl) (by simp) 0 (by simp) ?_
 simp only [go_sem]
 refine LoopK.intro (fun i : Nat => ⟨18, [(0, vStr s), (3, .sl 384 1 (kwL.map vStr)), (4, vi i)], []⟩) (fun i => 18 - i) (fun i => i <= k) 0 (by omega) ?_ ?_
 ·simp only [go_sem, kwL, List.map_cons, List.map_nil]
 rintro i hi
 have h18 : i < 18 := by rw [kwL_len] at hk1; omega
 have hl : i < kwL.length := by omega
 have hg := getStr hl
 have hw : IntKind.i64.wrap (i + 1) = i + 1 := wrap_in (by omega) (by omega)
 cases hn : kwL[i]!.toList == s.toList
 ·have : i ≠ k := by intro e; rw [e, hk2] at hn; cases hn
  simp only [go_sem, kwL_len, h18, hg, hn, hw]
  refine roundK.intro (i + 1) (by omega) (by omega) ?_
  simp only [go_sem]
 ·simp only [go_sem, kwL_len, h18, hg, hn]
end Go.AM
