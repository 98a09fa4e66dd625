/-
 Walks: Below of at most two dealt words (chapter 9).
-/
import Derived.Test.YtlcckmmibeddeaaExU
import Derived.Test.YtlcckmmibeddeaaExV
import Derived.Test.YtlcckmmibeddeaaX1
import Derived.Test.YtlcckmmibeddeaaLExB
namespace Go.AM
open Go Go.Proofs Go.RowKit
theorem valid_of {p : List TmD} (h : OkP p) (hl : p.length <= 24) (hx : LetP In2 p) : ValidP 2 p :=
 ⟨by omega, hl, h, fun t ht x hxx => by have := hx t ht x hxx; unfold In2 at this; omega, fun t ht => Nat.le_trans (asc_few (h t ht).asc (hx t ht)) (by decide)⟩
theorem short_of {p : List TmD} (h : OkP p) (hx : LetP In2 p) : ShortP p := fun t ht => Nat.le_trans (asc_few (h t ht).asc (hx t ht)) (by decide)
theorem meet_len_le {p q : List TmD} {k : Nat} (h : p.length + q.length <= k) : (meetP p q).length <= 2 ^ k := meet_len k p q h
theorem belOk (ws : List (List Int)) (m : Nat) (hm : m <= ws.length) (h2 : m <= 2) (hnil : m < ws.length -> ws[m]! = []) (h0 : ∀ k, k < m -> ws[k]! ≠ [] /\ ws[k]!.length <= 3 /\ ∀ x ∈ ws[k]!, In2 x) : BelOkM 2 ws m (belF ws) where
 le := hm
 nil := hnil
 full k hk := (h0 k hk).1
 zero := rfl
 ok k hk p hp := by
  obtain ⟨h1, h3⟩ := belF_lets h0 k hk p hp
  exact ⟨belF_ok ws k p hp, short_of (belF_ok ws k p hp) h1, by omega⟩
 few k hk := by
  match k, hk with
  | 0, _ => rw [belF]; simp
  | k + 1, hk =>
   have h := belF_few (fun k hk => ⟨(h0 k hk).1, (h0 k hk).2.1, fun x hx => by have := (h0 k hk).2.2 x hx; unfold In2 at this; omega⟩) h2 (show k < m by omega)
   rw [belF, (asc_permP _).length_eq]; omega
 step k hk := by
  have h := belF_few (fun k hk => ⟨(h0 k hk).1, (h0 k hk).2.1, fun x hx => by have := (h0 k hk).2.2 x hx; unfold In2 at this; omega⟩) h2 hk
  have hkl : (belF ws k).length <= 12 := by
   match k, hk with
   | 0, _ => rw [belF]; simp
   | k + 1, hk =>
    have h := belF_few (fun k hk => ⟨(h0 k hk).1, (h0 k hk).2.1, fun x hx => by have := (h0 k hk).2.2 x hx; unfold In2 at this; omega⟩) h2 (show k < m by omega)
    rw [belF, (asc_permP _).length_eq]; exact h
  obtain ⟨a1, a2, a3⟩ := h0 k hk
  have hwl := without_len1 2 _ a1
  have hsh : ∀ q ∈ belF ws k, q.length + (withoutP 2 ws[k]!).length <= 11 := fun q hq => by
   have := (belF_lets h0 k (by omega) q hq).2
   omega
  refine con_xmaximalS (belowStep 2 (belF ws k) ws[k]!) (fun p hp => ?_) ?_ h
  ·refine ⟨step_ok (belF_ok ws k) p hp, ?_⟩
   obtain ⟨q, hq, hx⟩ := List.mem_flatMap.1 hp
   obtain ⟨b1, b2⟩ := belF_lets h0 k (by omega) q hq
   have hq' := belF_ok ws k q hq
   have hl := meet_short 11 q (withoutP 2 ws[k]!) (hsh q hq) p hx
   exact ⟨by omega, fun t ht => Nat.le_trans (meet_letters 11 q (withoutP 2 ws[k]!) (hsh q hq) (short_of hq' b1) (without_short 2 (by decide) _) p hx t ht) (by decide)⟩
  ·exact Nat.le_trans (flatMap_len (c := 2 ^ 11) _ fun q hq => meet_len_le (hsh q hq)) (Nat.le_trans (Nat.mul_le_mul_right _ hkl) (by decide))
def headN (ws : List (List Int)) : Nat := ws.findIdx List.isEmpty
def belA (ws : List (List Int)) : List (List TmD) := if headN ws < ws.length then [] else belF ws (headN ws)
theorem head_words {ws : List (List Int)} (h3 : ∀ w ∈ ws, w.length <= 3 /\ ∀ x ∈ w, In2 x) : ∀ k, k < headN ws -> ws[k]! ≠ [] /\ ws[k]!.length <= 3 /\ ∀ x ∈ ws[k]!, In2 x := fun k hk => by
 have hl := List.findIdx_le_length (xs := ws) (p := List.isEmpty)
 have hk' : k < ws.length := by unfold headN at hk; omega
 have hn := List.not_of_lt_findIdx hk
 have hmem := h3 _ (mem_bang hk')
 refine ⟨fun he => ?_, hmem.1, hmem.2⟩
 rw [getElem!_pos ws k hk'] at he
 rw [he] at hn
 simp at hn
theorem head_nil {ws : List (List Int)} (h : headN ws < ws.length) : ws[headN ws]! = [] := by
 have := List.findIdx_getElem (xs := ws) (p := List.isEmpty) (w := h)
 rw [getElem!_pos ws _ h]
 exact List.isEmpty_iff.1 this
theorem con_xBelowA (ws : List (List Int)) (h2 : ws.length <= 2) (h3 : ∀ w ∈ ws, w.length <= 3 /\ ∀ x ∈ w, In2 x) :
  Con Try.prog 20 [vi 2, vm 0 ws] [] fun r _ => r = .tup [.sl 0 1 ((belA ws).map vPr), vi 0] := by
 have hl : headN ws <= ws.length := List.findIdx_le_length
 exact con_xBelowM 2 ws (headN ws) (belF ws) (belOk ws (headN ws) hl (by omega) head_nil (head_words h3)) (by omega) (by omega) (fun w hw => (h3 w hw).1) (fun w hw x hx => by have := (h3 w hw).2 x hx; unfold In2 at this; omega)
theorem belA_valid {ws : List (List Int)} (h2 : ws.length <= 2) (h3 : ∀ w ∈ ws, w.length <= 3 /\ ∀ x ∈ w, In2 x) : ∀ p ∈ belA ws, ValidP 2 p := fun p hp => by
 have hl : headN ws <= ws.length := List.findIdx_le_length
 unfold belA at hp
 split at hp
 ·cases hp
 ·obtain ⟨h1, h4⟩ := belF_lets (head_words h3) (headN ws) (Nat.le_refl _) p hp
  exact valid_of (belF_ok ws _ p hp) (by omega) h1
theorem belA_few {ws : List (List Int)} (h2 : ws.length <= 2) (h3 : ∀ w ∈ ws, w.length <= 3 /\ ∀ x ∈ w, In2 x) : (belA ws).length <= 1000 := by
 have hl : headN ws <= ws.length := List.findIdx_le_length
 unfold belA
 split
 ·simp
 ·exact (belOk ws (headN ws) hl (by omega) head_nil (head_words h3)).few _ (Nat.le_refl _)
theorem belA_any {ws : List (List Int)} (_h2 : ws.length <= 2) (h3 : ∀ w ∈ ws, w.length <= 3 /\ ∀ x ∈ w, In2 x) {v : List Int} (hv : ∀ x ∈ v, In2 x) : anyP (belA ws) v = !ws.any fun w => subB w v := by
 have hl : headN ws <= ws.length := List.findIdx_le_length
 unfold belA
 split
 ·rename_i h
  have he := head_nil h
  have : (ws.any fun w => subB w v) = true := List.any_eq_true.2 ⟨ws[headN ws]!, mem_bang h, by rw [he]; exact sub_nil v⟩
  rw [this]; rfl
 ·rename_i h
  rw [belF_any hl (fun k hk => (head_words h3 k hk).1) (fun z hz => by have := hv z hz; unfold In2 at this; omega) _ (Nat.le_refl _), List.take_of_length_le (by omega)]
  rw [Bool.eq_iff_iff, List.all_eq_true, Bool.not_eq_true', List.any_eq_false]
  constructor <;> intro h w hw <;> simpa using h w hw
theorem DealtP.lets {p : List TmD} {k : Nat} (h : DealtP 2 k p) : LetP In2 p := fun t ht x hx => (h.ls t ht).2 x hx
theorem dealt_meet {p q : List TmD} (hp : DealtP 2 4 p) (hq : DealtP 2 4 q) : (maxL (meetP p q)).length <= 12 :=
 meet_few hp.ok hq.ok hp.few hq.few (fun t ht x hx => by have := hp.lets t ht x hx; unfold In2 at this; omega) (fun t ht x hx => by have := hq.lets t ht x hx; unfold In2 at this; omega)
theorem meetA_valid {p q : List TmD} (hp : DealtP 2 4 p) (hq : DealtP 2 4 q) : ∀ x ∈ ascFP (maxL (meetP p q)), ValidP 2 x := fun x hx => by
 obtain ⟨y, hy, rfl⟩ := asc_maxL_mem hx
 have h1 := hp.few
 have h2 := hq.few
 have hl := meet_lens 8 p q (by omega) y hy
 exact valid_of (normP_ok (meetP_ok hp.ok hq.ok y hy)) (Nat.le_trans (normP_len y) (by omega)) (meet_lets _ _ _ (Nat.le_refl _) hp.lets hq.lets y hy).norm
theorem meetA_any {p q : List TmD} (hp : OkP p) (hq : OkP q) (w : List Int) : anyP (ascFP (maxL (meetP p q))) w = (memP p w && memP q w) := by
 rw [any_asc, maxL_any (meetP_ok hp hq), meetP_mem hp hq]
theorem con_xMeetA (p q : List TmD) (hp : DealtP 2 4 p) (hq : DealtP 2 4 q) : Con Try.prog 17 [vi 2, vPr p, vPr q] [] fun r _ => r = .tup [.sl 0 1 ((ascFP (maxL (meetP p q))).map vPr), vi 0] :=
 con_xMeet 2 p q (hp.valid (by omega)) (hq.valid (by omega)) (by have := hp.few; have := hq.few; omega) (dealt_meet hp hq) ⟨short_of hp.ok hp.lets, short_of hq.ok hq.lets⟩
theorem con_dWordF (l : List Int) (s : DS) (letters most : Int) (h : Dk l s) (h1 : 0 <= letters /\ letters <= 1000000) (h2 : 0 <= most /\ most <= 1000) : Con Try.prog 18 [.pb 0 0, vi letters, vi most] [deckA l s]
  fun r b => r = vs 0 (wdV l s letters most) /\ b = [deckA l (wdS l s letters most)] :=
 ((con_dWord l s letters most h h1 h2).freezeB fun _ => true).mono fun r b ⟨r1, b1, ⟨h1, h2⟩, h3, h4⟩ => by
  subst h1; subst h2; subst h3; subst h4
  exact ⟨rfl, rfl⟩
theorem wdV_ok {l : List Int} {s : DS} : (wdV l s 2 3).length <= 3 /\ ∀ x ∈ wdV l s 2 3, In2 x := by
 obtain ⟨e, e2⟩ := wdN_le (l := l) (s := s) (most := 3) (by omega)
 refine ⟨by unfold wdV; rw [smV_len]; omega, fun x hx => ?_⟩
 have := smV_low (l := l) (s := nextS l s (3 + 1)) (most := 2 - 1) (by omega) _ x hx
 unfold In2; omega
end Go.AM
