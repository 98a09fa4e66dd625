/-
  Plain laws: accepted words; what the search for a word finds.
-/
import Derived.Test.YthmjnbmooedfjaaLc
namespace Go.AM

/-- the states behind a word -/
def accF (x : Sys) (w : List Int) : List Int := w.foldl (afterF x) [0]
def Acc (x : Sys) (w : List Int) : Prop := accF x w ≠ []
theorem accF_snoc (x : Sys) (w : List Int) (l : Int) : accF x (w ++ [l]) = afterF x (accF x w) l := by simp [accF]
theorem accF_among {x : Sys} (hx : checkS x = 0) (w : List Int) : Among x (accF x w) := by
  have : ∀ (w : List Int) (s : List Int), Among x s → Among x (w.foldl (afterF x) s) := by
    intro w
    induction w with
    | nil => intro s h; exact h
    | cons l w ih => intro s h; exact ih _ (among_afterF hx h)
  exact this w _ (among_start hx)
theorem afterF_nil (x : Sys) (l : Int) : afterF x [] l = [] := by
  rw [List.eq_nil_iff_forall_not_mem]
  intro t ht
  obtain ⟨i, hi, _⟩ := mem_afterF.1 ht
  simp at hi
theorem acc_prefix {x : Sys} {w : List Int} {l : Int} (h : Acc x (w ++ [l])) : Acc x w := fun e => h (by rw [accF_snoc, e, afterF_nil])

/-- a simulation's words -/
theorem sim_words {a b : Sys} {S : Nat → Nat → Prop} (ha : checkS a = 0) (hb : checkS b = 0) (hS : IsSim a b S) (h0 : S 0 0) : ∀ (w : List Int), ∀ i ∈ accF a w, ∃ j ∈ accF b w, S i.toNat j.toNat := by
  intro w
  have key : ∀ (n : Nat) (w : List Int), w.length = n → ∀ i ∈ accF a w, ∃ j ∈ accF b w, S i.toNat j.toNat := by
    intro n
    induction n with
    | zero =>
      intro w hw i hi
      obtain rfl := List.eq_nil_of_length_eq_zero hw
      have : i = 0 := by simpa [accF] using hi
      subst this
      exact ⟨0, by simp [accF], h0⟩
    | succ n ih =>
      intro w hw i hi
      obtain ⟨w', l, rfl⟩ : ∃ w' l, w = w' ++ [l] := ⟨w.dropLast, w.getLast (by intro e; rw [e] at hw; simp at hw), (List.dropLast_concat_getLast _).symm⟩
      rw [accF_snoc] at hi ⊢
      obtain ⟨k, hk, hq⟩ := mem_afterF.1 hi
      obtain ⟨m, hm, hs⟩ := ih w' (by simpa using hw) k hk
      have ka := (accF_among ha w').2 k hk
      have kb := (accF_among hb w').2 m hm
      obtain ⟨q, hq2, e1, e2⟩ := hS k.toNat m.toNat (by omega) (by omega) hs _ hq
      refine ⟨q.2, mem_afterF.2 ⟨m, hm, ?_⟩, e2⟩
      have : (l, q.2) = q := Prod.ext e1.symm rfl
      rw [this]; exact hq2
  exact key _ w rfl
theorem sim_acc {a b : Sys} {S : Nat → Nat → Prop} (ha : checkS a = 0) (hb : checkS b = 0) (hS : IsSim a b S) (h0 : S 0 0) {w : List Int} (h : Acc a w) : Acc b w := fun e => by
  obtain ⟨i, hi⟩ := List.exists_mem_of_ne_nil _ h
  obtain ⟨j, hj, _⟩ := sim_words ha hb hS h0 w i hi
  rw [e] at hj; simp at hj

/-! ### keys -/
theorem keyB_inj {a b a' b' : List Int} (ha : ∀ i ∈ a, 0 ≤ i ∧ i < 128) (ha' : ∀ i ∈ a', 0 ≤ i ∧ i < 128) (h : keyB a b = keyB a' b') : a = a' ∧ b = b' := by
  unfold keyB at h
  induction a generalizing a' with
  | nil =>
    cases a' with
    | nil => simpa using h
    | cons y a' => simp at h; have := ha' y (by simp); omega
  | cons x a ih =>
    cases a' with
    | nil => simp at h; have := ha x (by simp); omega
    | cons y a' =>
      simp at h
      obtain ⟨h1, h2⟩ := h
      obtain ⟨e1, e2⟩ := ih (fun i hi => ha i (by simp [hi])) (fun i hi => ha' i (by simp [hi])) h2
      exact ⟨by rw [h1, e1], e2⟩
theorem strOf_data (ns : List Int) : (strOf ns).data.toList = ns.map fun n => UInt8.ofNat n.toNat := by
  have : ∀ (ns : List Int) (r : ByteArray), (ns.foldl (fun r n => r.push (UInt8.ofNat n.toNat)) r).data.toList = r.data.toList ++ ns.map fun n => UInt8.ofNat n.toNat := by
    intro ns
    induction ns with
    | nil => intro r; simp
    | cons x ns ih => intro r; rw [List.foldl_cons, ih, List.map_cons]; simp [ByteArray.push]
  unfold strOf
  rw [this]; simp
theorem bytes_inj : ∀ {x y : List Int}, (∀ i ∈ x, 0 ≤ i ∧ i < 256) → (∀ i ∈ y, 0 ≤ i ∧ i < 256) → (x.map fun n => UInt8.ofNat n.toNat) = (y.map fun n => UInt8.ofNat n.toNat) → x = y
  | [], [], _, _, _ => rfl
  | [], _ :: _, _, _, h => by simp at h
  | _ :: _, [], _, _, h => by simp at h
  | a :: x, b :: y, hx, hy, h => by
    simp only [List.map_cons, List.cons.injEq] at h
    have h1 := hx a (by simp)
    have h2 := hy b (by simp)
    have e := congrArg UInt8.toNat h.1
    simp only [UInt8.toNat_ofNat'] at e
    rw [Nat.mod_eq_of_lt (by omega), Nat.mod_eq_of_lt (by omega)] at e
    rw [show a = b by omega, bytes_inj (fun i hi => hx i (by simp [hi])) (fun i hi => hy i (by simp [hi])) h.2]
/-- the states are small numbers -/
def Small (p : TP) : Prop := (∀ i ∈ p.2.1, 0 ≤ i ∧ i < 128) ∧ ∀ i ∈ p.2.2, 0 ≤ i ∧ i < 128
theorem keyP_inj {p q : TP} (hp : Small p) (hq : Small q) (h : keyP p = keyP q) : p.2 = q.2 := by
  unfold keyP at h
  rw [strOf_data, strOf_data] at h
  have hk : ∀ {p : TP}, Small p → ∀ i ∈ keyB p.2.1 p.2.2, 0 ≤ i ∧ i < 256 := by
    intro p hp i hi
    unfold keyB at hi
    rcases List.mem_append.1 hi with hi | hi
    · have := hp.1 i hi; omega
    · rcases List.mem_cons.1 hi with rfl | hi
      · omega
      · have := hp.2 i hi; omega
  have := bytes_inj (hk hp) (hk hq) h
  obtain ⟨e1, e2⟩ := keyB_inj hp.1 hq.1 this
  exact Prod.ext e1 e2

/-! ### the search -/
/-- what was met, in order; the first k have been looked at -/
structure Met (a b : Sys) (seen : List TP) (k : Nat) : Prop where
  valid : ∀ p ∈ seen, p.2.1 = accF a p.1 ∧ p.2.2 = accF b p.1 ∧ p.2.2 ≠ []
  sorted : seen.Pairwise fun p q => p.1.length ≤ q.1.length
  first : startP ∈ seen
  done : ∀ p ∈ seen.take k, ∀ lab ∈ labelsF a p.2.1, ∃ q ∈ seen, q.1.length ≤ p.1.length + 1 ∧ q.2.1 = afterF a p.2.1 lab ∧ q.2.2 = afterF b p.2.2 lab
  level : ∀ q ∈ seen, ∀ p, seen[k]? = some p → q.1.length ≤ p.1.length + 1
  apart : seen.Pairwise fun p q => p.2 ≠ q.2

theorem Met.reach {a b : Sys} {seen : List TP} {k : Nat} (h : Met a b seen k) : ∀ (x : List Int), Acc a x → (∀ p, seen[k]? = some p → x.length ≤ p.1.length) → ∃ q ∈ seen, q.1.length ≤ x.length ∧ q.2.1 = accF a x ∧ q.2.2 = accF b x := by
  intro x
  have key : ∀ (n : Nat) (x : List Int), x.length = n → Acc a x → (∀ p, seen[k]? = some p → x.length ≤ p.1.length) → ∃ q ∈ seen, q.1.length ≤ x.length ∧ q.2.1 = accF a x ∧ q.2.2 = accF b x := by
    intro n
    induction n with
    | zero =>
      intro x hx _ _
      obtain rfl := List.eq_nil_of_length_eq_zero hx
      exact ⟨startP, h.first, by simp [startP], rfl, rfl⟩
    | succ n ih =>
      intro x hx hacc hlen
      obtain ⟨y, l, rfl⟩ : ∃ y l, x = y ++ [l] := ⟨x.dropLast, x.getLast (by intro e; rw [e] at hx; simp at hx), (List.dropLast_concat_getLast _).symm⟩
      have hy : y.length = n := by simpa using hx
      obtain ⟨q, hq, h1, h2, h3⟩ := ih y hy (acc_prefix hacc) (fun p hp => by have := hlen p hp; simp at this; omega)
      have hqk : q ∈ seen.take k := by
        obtain ⟨j, hj⟩ := List.getElem?_of_mem hq
        have hjl := (List.getElem?_eq_some_iff.1 hj).1
        by_cases hjk : j < k
        · exact List.mem_of_getElem? (show (seen.take k)[j]? = some q by rw [List.getElem?_take, if_pos hjk]; exact hj)
        · exfalso
          have hkl : k < seen.length := by omega
          have hk0 := List.getElem?_eq_getElem hkl
          have h4 := hlen _ hk0
          have h5 : seen[k].1.length ≤ q.1.length := by
            rcases Nat.lt_or_ge k j with hlt | hge
            · have := List.pairwise_iff_getElem.1 h.sorted k j hkl hjl hlt
              rw [List.getElem?_eq_getElem hjl] at hj
              cases hj; exact this
            · have : j = k := by omega
              subst this
              rw [hk0] at hj; cases hj; exact Nat.le_refl _
          simp at h4; omega
      rw [accF_snoc, ← h2, accF_snoc, ← h3]
      have hlab : l ∈ labelsF a q.2.1 := by
        unfold Acc at hacc
        rw [accF_snoc, ← h2] at hacc
        obtain ⟨t, ht⟩ := List.exists_mem_of_ne_nil _ hacc
        obtain ⟨i, hi, hm⟩ := mem_afterF.1 ht
        exact mem_labelsF.2 ⟨i, hi, t, hm⟩
      obtain ⟨q', hq', g1, g2, g3⟩ := h.done q hqk l hlab
      exact ⟨q', hq', by simp; omega, g2, g3⟩
  exact key _ x rfl

/-- a word that tells them apart -/
def ApartW (a b : Sys) (x : List Int) : Prop := Acc a x ∧ ¬ Acc b x
theorem Met.none {a b : Sys} {seen : List TP} {k : Nat} (h : Met a b seen k) {x : List Int} (hx : ∀ p, seen[k]? = some p → x.length ≤ p.1.length) : ¬ ApartW a b x := fun ⟨h1, h2⟩ => by
  obtain ⟨q, hq, _, _, g3⟩ := h.reach x h1 hx
  exact h2 (by unfold Acc; rw [← g3]; exact (h.valid q hq).2.2)
end Go.AM
