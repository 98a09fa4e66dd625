/-
  A set of byte lists, as a map; after and labels, as they are used.
-/
import Derived.Test.YthmjnbmooedfjaaWO
import Derived.Test.YthmjnbmooedfjaaWJ
import Derived.Maps.Views
namespace Go.AM
open Go Go.Proofs Go.RowKit

/-- the map whose keys are these -/
def metD (ks : List (List UInt8)) : DataW Unit := Go.Maps.setOf (.lit (.bool true)) (ks.map Lit.string)
theorem metD_snoc (ks : List (List UInt8)) (k : List UInt8) : (metD ks).put (.string k) (.lit (.bool true)) = metD (ks ++ [k]) := by
  unfold metD; rw [List.map_append]; exact (Go.Maps.setOf_snoc _ _ _).symm
theorem metD_tidy (ks : List (List UInt8)) : Go.Maps.Tidy (metD ks) := Go.Maps.tidy_setOf _ _ fun x hx => by
  obtain ⟨k, _, rfl⟩ := List.mem_map.1 hx; trivial
theorem metD_at : ∀ (ks : List (List UInt8)) (k : List UInt8), boolAt (metD ks) (.string k) = ks.contains k := by
  intro ks k
  have : ∀ (n : Nat) (ks : List (List UInt8)), ks.length = n → boolAt (metD ks) (.string k) = ks.contains k := by
    intro n
    induction n with
    | zero => intro ks h; obtain rfl := List.eq_nil_of_length_eq_zero h; rfl
    | succ n ih =>
      intro ks h
      obtain ⟨ks', x, rfl⟩ : ∃ ks' x, ks = ks' ++ [x] := ⟨ks.dropLast, ks.getLast (by intro e; rw [e] at h; simp at h), (List.dropLast_concat_getLast _).symm⟩
      have ih' := ih ks' (by simpa using h)
      rw [← metD_snoc]
      by_cases hk : k = x
      · subst hk
        unfold boolAt
        rw [Go.Maps.atKey_put_same (metD_tidy _).isMap (by trivial)]
        simp
      · unfold boolAt at ih' ⊢
        rw [Go.Maps.atKey_put_other (by intro e; cases e; exact hk rfl), ih']
        simp [hk]
  exact this _ ks rfl
theorem metD_has (ks : List (List UInt8)) (k : List UInt8) : Go.Maps.has (metD ks) (.string k) = ks.contains k := by
  unfold metD Go.Maps.setOf
  rw [Go.Maps.has_fold _ _ _ _ (⟨[], rfl⟩) (fun x hx => by obtain ⟨k, _, rfl⟩ := List.mem_map.1 hx; trivial)]
  rw [show Go.Maps.has (DataW.map ([] : List (Lit × DataW Unit))) (.string k) = false from rfl, Bool.false_or, List.any_map, List.contains_eq_any_beq]
  congr 1
  funext y
  by_cases h : k = y
  · subst h; simp [Go.WideAt.sameKey_self (show Go.WideAt.IsKeyLit (.string k) from trivial)]
  · have : (Lit.string y).sameKey (.string k) = false := by
      cases hc : (Lit.string y).sameKey (.string k)
      · rfl
      · have := Go.WideAt.sameKey_eq hc; cases this; exact absurd rfl h
    simp [this, h]
theorem metD_len : ∀ (ks : List (List UInt8)), ks.Nodup → mapLen (metD ks) = ks.length := by
  intro ks
  have : ∀ (n : Nat) (ks : List (List UInt8)), ks.length = n → ks.Nodup → mapLen (metD ks) = ks.length := by
    intro n
    induction n with
    | zero => intro ks h _; obtain rfl := List.eq_nil_of_length_eq_zero h; rfl
    | succ n ih =>
      intro ks h hn
      obtain ⟨ks', x, rfl⟩ : ∃ ks' x, ks = ks' ++ [x] := ⟨ks.dropLast, ks.getLast (by intro e; rw [e] at h; simp at h), (List.dropLast_concat_getLast _).symm⟩
      rw [List.nodup_append] at hn
      have hx : x ∉ ks' := fun hm => hn.2.2 x hm x (by simp) rfl
      have ih' := ih ks' (by simpa using h) hn.1
      have e : ∀ D : DataW Unit, mapLen D = Go.Maps.size D := fun D => by cases D <;> rfl
      rw [← metD_snoc, e, Go.Maps.size_put (metD_tidy _), metD_has, ← e, ih']
      simp [hx]
  exact this _ ks rfl

/-- the states behind a label -/
def afterF (x : Sys) (s : List Int) (lab : Int) : List Int := uniq (sortI (outOf lab (visA x s s.length)))
def labelsF (x : Sys) (s : List Int) : List Int := uniq (sortI ((visA x s s.length).map (·.1)))
/-- some states of a system -/
def Among (x : Sys) (s : List Int) : Prop := s.length ≤ 128 ∧ ∀ i ∈ s, 0 ≤ i ∧ i < x.length

theorem con_after (s : List Int) (x : Sys) (lab : Int) (hs : Among x s) (hx : ∀ l ∈ x, l.length ≤ 1000000) :
    Con Try.prog 35 [vs 0 s, vy 0 x, vi lab] [] fun r _ => r = vs 0 (afterF x s lab) :=
  (Con.freezeR (fun _ => true) (con_afterO s x lab hs.2 hs.1 hx _ rfl)).mono fun r bx ⟨r0, h1, h2⟩ => by subst h1; subst h2; rfl
theorem con_labels (s : List Int) (x : Sys) (hs : Among x s) (hx : ∀ l ∈ x, l.length ≤ 1000000) :
    Con Try.prog 33 [vs 0 s, vy 0 x] [] fun r _ => r = vs 0 (labelsF x s) :=
  (Con.freezeR (fun _ => true) (con_labelsO s x hs.2 hs.1 hx _ rfl)).mono fun r bx ⟨r0, h1, h2⟩ => by subst h1; subst h2; rfl
end Go.AM
