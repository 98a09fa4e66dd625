/-
 Plain laws: what is above none of two short words over two letters has at most twelve maximal products (chapter 9).
-/
import Derived.Test.YtlcckmmibeddeaaLEx7
import Derived.Test.YtlcckmmibeddeaaLEx8
namespace Go.AM
set_option maxRecDepth 100000
theorem any_asc (l : List (List TmD)) (w : List Int) : anyP (ascFP l) w = anyP l w := by
 rw [Bool.eq_iff_iff, any_iff, any_iff]
 constructor
 ·rintro ⟨p, hp, h⟩; exact ⟨p, (asc_permP l).mem_iff.1 hp, h⟩
 ·rintro ⟨p, hp, h⟩; exact ⟨p, (asc_permP l).mem_iff.2 hp, h⟩
theorem step_anyG {n : Nat} {out : List (List TmD)} {w v : List Int} (h : ∀ p ∈ out, OkP p) : anyP (belowStep n out w) v = (anyP out v && memP (withoutP n w) v) := by
 unfold belowStep
 induction out with
 | nil => rw [List.flatMap_nil, any_nil, Bool.false_and]
 | cons p l ih =>
  rw [List.flatMap_cons, any_app, any_cons, meetP_mem (h p (by simp)) (without_ok n w), ih fun q hq => h q (by simp [hq])]
  cases memP p v <;> cases memP (withoutP n w) v <;> simp
def belN (out : List (List TmD)) (w : List Int) : List (List TmD) := out.flatMap fun p => meetN 13 p (withoutP 2 w)
theorem without_len9 (n : Nat) : ∀ w : List Int, (withoutP n w).length <= 2 * w.length
 | [] => by simp [withoutP]
 | [b] => by simp [withoutP]
 | b :: c :: w => by
  have := without_len9 n (c :: w)
  rw [withoutP]; simp only [List.length_cons] at this ⊢; omega
theorem belN_eq {out : List (List TmD)} {w : List Int} (h : ∀ p ∈ out, p.length <= 7) (hw : w.length <= 3) : belN out w = belowStep 2 out w := by
 unfold belN belowStep
 induction out with
 | nil => rfl
 | cons p l ih =>
  rw [List.flatMap_cons, List.flatMap_cons, ih fun q hq => h q (by simp [hq])]
  have h1 := h p (by simp)
  have h2 := without_len9 2 w
  rw [meetN_eq 13 p (withoutP 2 w) (by omega)]
def shorts3 : List (List Int) := [[0], [1], [0, 0], [0, 1], [1, 0], [1, 1], [0, 0, 0], [0, 0, 1], [0, 1, 0], [0, 1, 1], [1, 0, 0], [1, 0, 1], [1, 1, 0], [1, 1, 1]]
theorem in_shorts {w : List Int} (h0 : w ≠ []) (h3 : w.length <= 3) (hx : ∀ x ∈ w, x = 0 \/ x = 1) : w ∈ shorts3 := by
 match w, h0, h3, hx with
 | [a], _, _, hx => rcases hx a (by simp) with rfl | rfl <;> decide
 | [a, b], _, _, hx => rcases hx a (by simp) with rfl | rfl <;> rcases hx b (by simp) with rfl | rfl <;> decide
 | [a, b, c], _, _, hx => rcases hx a (by simp) with rfl | rfl <;> rcases hx b (by simp) with rfl | rfl <;> rcases hx c (by simp) with rfl | rfl <;> decide
 | _ :: _ :: _ :: _ :: _, _, h3, _ => simp only [List.length_cons] at h3; omega
theorem few_below : (shorts3.all fun w => decide ((maxL (belN [[allT 2 2]] w)).length <= 12) && ((maxL (belN [[allT 2 2]] w)).all fun p => decide (p.length <= 7)) && shorts3.all fun v => decide ((maxL (belN (maxL (belN [[allT 2 2]] w)) v)).length <= 12)) = true := by decide +kernel
theorem all_ok2 : ∀ p ∈ ([[allT 2 2]] : List (List TmD)), OkP p := fun p hp => by
 rw [List.mem_singleton.1 hp]; exact fun t ht => by rw [List.mem_singleton.1 ht]; exact allT_ok 2 2
def belF (ws : List (List Int)) : Nat -> List (List TmD)
 | 0 => [[allT 2 2]]
 | k + 1 => ascFP (maxL (belowStep 2 (belF ws k) ws[k]!))
theorem maxL_ok {l : List (List TmD)} (h : ∀ p ∈ l, OkP p) : ∀ p ∈ maxL l, OkP p := (maxL_max h).ok
theorem belF_ok (ws : List (List Int)) : ∀ k, ∀ p ∈ belF ws k, OkP p
 | 0 => all_ok2
 | k + 1 => fun p hp => by
  rw [belF] at hp
  exact maxL_ok (step_ok (belF_ok ws k)) p ((asc_permP _).mem_iff.1 hp)
theorem belF_few {ws : List (List Int)} {m : Nat} (h0 : ∀ k, k < m -> ws[k]! ≠ [] /\ ws[k]!.length <= 3 /\ ∀ x ∈ ws[k]!, x = 0 \/ x = 1) (h2 : m <= 2) {k : Nat} (hk : k < m) :
  (maxL (belowStep 2 (belF ws k) ws[k]!)).length <= 12 := by
 have h := few_below
 rw [List.all_eq_true] at h
 have hin : ∀ k, k < m -> ws[k]! ∈ shorts3 := fun k hk => in_shorts (h0 k hk).1 (h0 k hk).2.1 (h0 k hk).2.2
 have h1 := h _ (hin 0 (by omega))
 rw [Bool.and_eq_true, Bool.and_eq_true, decide_eq_true_eq, List.all_eq_true, List.all_eq_true] at h1
 obtain ⟨⟨a1, a2⟩, a3⟩ := h1
 have e0 : belN [[allT 2 2]] ws[0]! = belowStep 2 [[allT 2 2]] ws[0]! := belN_eq (fun p hp => by rw [List.mem_singleton.1 hp]; simp) (h0 0 (by omega)).2.1
 rw [e0] at a1 a2 a3
 match k, hk with
 | 0, hk => exact a1
 | 1, hk =>
  have b := of_decide_eq_true (a3 _ (hin 1 hk))
  have hs := step_ok (n := 2) (w := ws[0]!) all_ok2
  rw [belN_eq (fun p hp => of_decide_eq_true (a2 p hp)) (h0 1 hk).2.1] at b
  refine Nat.le_trans (maxL_len (step_ok (belF_ok ws 1)) (step_ok (maxL_ok hs)) fun v => ?_) b
  rw [step_anyG (belF_ok ws 1), step_anyG (maxL_ok hs)]
  show (anyP (ascFP (maxL (belowStep 2 [[allT 2 2]] ws[0]!))) v && _) = _
  rw [any_asc]
 | k + 2, hk => omega
theorem belF_any {ws : List (List Int)} {m : Nat} (hm : m <= ws.length) (h0 : ∀ k, k < m -> ws[k]! ≠ []) {v : List Int} (hv : ∀ z ∈ v, 0 <= z /\ z < (2 : Nat)) : ∀ k, k <= m -> anyP (belF ws k) v = (ws.take k).all fun w => !subB w v
 | 0, _ => by
  rw [belF, any_cons, any_nil, Bool.or_false, List.take_zero, List.all_nil]
  show memP [allT 2 2] v = true
  have e : ∀ v : List Int, (∀ z ∈ v, 0 <= z /\ z < (2 : Nat)) -> memP [allT 2 2] v = true := by
   intro v
   induction v with
   | nil => intro _; exact memP_nil _
   | cons x v ih =>
    intro h
    have hx := h x (by simp)
    have : x ∈ (allT 2 2).ls := mem_all.2 ⟨hx, by have := hx.2; omega⟩
    rw [memP_in this rfl]
    exact ih fun z hz => h z (by simp [hz])
  exact e v hv
 | k + 1, h => by
  rw [belF, any_asc, maxL_any (step_ok (belF_ok ws k)), step_any (belF_ok ws k) (h0 k (by omega)) hv, belF_any hm h0 hv k (by omega),
   List.take_succ_eq_append_getElem (by omega), List.all_append, getElem!_pos ws k (by omega)]
  simp
end Go.AM
