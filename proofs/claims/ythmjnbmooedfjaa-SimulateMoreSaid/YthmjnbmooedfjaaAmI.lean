/-
  The abstract machine: stores.
-/
import Derived.Test.YthmjnbmooedfjaaAmH
namespace Go.AM
open Go.RowKit

theorem setSeg_take {α : Type} : ∀ (ys cs : List α) (k m : Nat), (setSeg cs k ys).take m = setSeg (cs.take m) k ys
  | [], _, _, _ => rfl
  | y :: ys, cs, k, m => by simp only [setSeg]; rw [setSeg_take ys, List.take_set]

theorem setSeg_eq {α : Type} : ∀ (ys cs : List α) (k : Nat), k + ys.length ≤ cs.length → setSeg cs k ys = cs.take k ++ ys ++ cs.drop (k + ys.length)
  | [], cs, k, _ => by simp [setSeg]
  | y :: ys, cs, k, h => by
    simp only [List.length_cons] at h
    simp only [setSeg]
    rw [setSeg_eq ys (cs.set k y) (k + 1) (by simp; omega)]
    have hk : k < cs.length := by omega
    have e1 : (cs.set k y).take (k + 1) = cs.take k ++ [y] := by
      rw [List.take_succ_eq_append_getElem (by simpa using hk), List.take_set_of_le (Nat.le_refl _)]; simp
    have e2 : (cs.set k y).drop (k + 1 + ys.length) = cs.drop (k + (ys.length + 1)) := by
      rw [List.drop_set_of_lt (by omega), show k + 1 + ys.length = k + (ys.length + 1) by omega]
    rw [e1, e2]; simp

theorem setSeg_out {α : Type} : ∀ (ys cs : List α) (k : Nat), cs.length ≤ k → setSeg cs k ys = cs
  | [], _, _, _ => rfl
  | y :: ys, cs, k, h => by simp only [setSeg]; rw [List.set_eq_of_length_le h, setSeg_out ys cs (k + 1) (by omega)]

theorem PW.setSeg {α β : Type} {R : α → β → Prop} : ∀ {ys : List α} {vs : List β} {cs : List α} {us : List β} (k : Nat), PW R ys vs → PW R cs us → PW R (AM.setSeg cs k ys) (AM.setSeg us k vs)
  | [], vs, cs, us, k, h, hc => by rw [h.nil_inv]; exact hc
  | y :: ys, vs, cs, us, k, h, hc => by
    obtain ⟨v, vs', rfl, h1, h2⟩ := h.cons_inv
    simp only [AM.setSeg]
    exact PW.setSeg (k + 1) h2 (hc.set k h1)

theorem setSeg_append_right {α : Type} : ∀ (ys as bs : List α) (k : Nat), setSeg (as ++ bs) (as.length + k) ys = as ++ setSeg bs k ys
  | [], _, _, _ => rfl
  | y :: ys, as, bs, k => by
    simp only [setSeg]
    rw [List.set_append_right _ _ (by omega), show as.length + k - as.length = k by omega, show as.length + k + 1 = as.length + (k + 1) by omega, setSeg_append_right ys]

theorem setSeg_append_left {α : Type} : ∀ (ys as bs : List α) (k : Nat), k + ys.length ≤ as.length → setSeg (as ++ bs) k ys = setSeg as k ys ++ bs
  | [], _, _, _, _ => rfl
  | y :: ys, as, bs, k, h => by
    simp only [List.length_cons] at h
    simp only [setSeg]
    rw [List.set_append_left _ _ (by omega), setSeg_append_left ys _ _ _ (by simp; omega)]

theorem One.setSeg : ∀ {vs us : List Value} (k : Nat), One vs → One us → One (AM.setSeg us k vs)
  | [], _, _, _, h => h
  | v :: vs, us, k, hv, hu => by
    simp only [AM.setSeg]
    refine One.setSeg (k + 1) (fun u h => hv u (by simp [h])) fun u h => ?_
    rcases List.mem_or_eq_of_mem_set h with h' | h'
    · exact hu u h'
    · rw [h']; exact hv v (by simp)

/-- an element, some of whose cells are written -/
def updElem (o : Nat) (ys : List AV) : AV → AV
  | .ag cs => .ag (setSeg cs o ys)
  | _ => ys.headD .any

def leafAll (ys : List AV) : Bool := ys.all fun y => y.leafy

theorem updElem_cells {o : Nat} {ys : List AV} {e : AV} (h : o + ys.length ≤ e.cells.length) (hp : ys ≠ []) (hl : leafAll ys = true) : (updElem o ys e).cells = setSeg e.cells o ys := by
  cases ys with
  | nil => exact absurd rfl hp
  | cons y ys =>
    have hy : y.leafy = true := by simp only [leafAll, List.all_cons, Bool.and_eq_true] at hl; exact hl.1
    have leaf : e.leafy = true ∨ (∃ vs, e = .tup vs) → (updElem o (y :: ys) e).cells = setSeg e.cells o (y :: ys) := by
      intro he
      have hc : e.cells = [e] := by
        rcases he with he | ⟨vs, rfl⟩
        · cases e <;> first | rfl | (simp [AV.leafy] at he)
        · rfl
      have hu : updElem o (y :: ys) e = y := by
        rcases he with he | ⟨vs, rfl⟩
        · cases e <;> first | rfl | (simp [AV.leafy] at he)
        · rfl
      rw [hc] at h
      simp only [List.length_cons, List.length_nil] at h
      have h0 : o = 0 := by omega
      have h1 : ys = [] := List.eq_nil_of_length_eq_zero (by omega)
      subst h0; subst h1
      rw [hu, hc]
      have : y.cells = [y] := by cases y <;> first | rfl | (simp [AV.leafy] at hy)
      rw [this]; rfl
    cases e with
    | ag cs => rfl
    | tup vs => exact leaf (.inr ⟨vs, rfl⟩)
    | _ => exact leaf (.inl rfl)

def updAt (xs : List AV) (i o : Nat) (ys : List AV) : List AV := xs.modify i (updElem o ys)

theorem updAt_flat {es o : Nat} {ys : List AV} (ho : o + ys.length ≤ es) (hp : ys ≠ []) (hl : leafAll ys = true) : ∀ (xs : List AV) (i : Nat), (∀ x ∈ xs, x.cells.length = es) → flat (updAt xs i o ys) = setSeg (flat xs) (i * es + o) ys
  | [], i, _ => by
    cases i <;> simp [updAt, flat, setSeg_out]
  | x :: xs, 0, h => by
    have hx := h x (by simp)
    simp only [updAt, List.modify_zero_cons, flat, List.flatMap_cons, Nat.zero_mul, Nat.zero_add]
    rw [updElem_cells (by omega) hp hl, setSeg_append_left _ _ _ _ (by omega)]
  | x :: xs, i + 1, h => by
    have hx := h x (by simp)
    have := updAt_flat ho hp hl xs i (fun y hy => h y (by simp [hy]))
    simp only [updAt, flat] at this
    simp only [updAt, List.modify_succ_cons, flat, List.flatMap_cons]
    rw [this, show (i + 1) * es + o = x.cells.length + (i * es + o) by rw [hx, Nat.succ_mul]; omega, setSeg_append_right]

theorem updAt_width {es o : Nat} {ys : List AV} (ho : o + ys.length ≤ es) (hp : ys ≠ []) (hl : leafAll ys = true) {xs : List AV} {i : Nat} (h : ∀ x ∈ xs, x.cells.length = es) : ∀ x ∈ updAt xs i o ys, x.cells.length = es := by
  intro x hx
  obtain ⟨j, hj⟩ := List.getElem?_of_mem hx
  simp only [updAt, List.getElem?_modify] at hj
  cases hk : xs[j]? with
  | none => simp [hk] at hj
  | some y =>
    have hy := h y (List.mem_of_getElem? hk)
    simp only [hk, Option.map_eq_map, Option.map_some, Option.some.injEq] at hj
    split at hj
    · rw [← hj, updElem_cells (by omega) hp hl, setSeg_length]; exact hy
    · rw [← hj]; exact hy

def storeRow (t es i o : Nat) (ys : List AV) : AV → AV
  | .sl t' es' xs => if t' = t then (if es' = es then .sl t es (updAt xs i o ys) else .any) else .sl t' es' xs
  | x => x
def storeLeaf (t es i o : Nat) (ys : List AV) : AV → AV
  | .so t' xs => if t' = t then .any else .so t' (xs.map (storeRow t es i o ys))
  | .po t' xs i' => if t' = t then .any else .po t' (xs.map (storeRow t es i o ys)) i'
  | .sl t' es' xs => if t' = t then (if es' = es then .sl t es (updAt xs i o ys) else .any) else .sl t' es' xs
  | .pe t' es' xs i' o' => if t' = t then (if es' = es then .pe t es (updAt xs i o ys) i' o' else .any) else .pe t' es' xs i' o'
  | .tl t' es' xs i' => if t' = t then (if es' = es then .tl t es (updAt xs i o ys) i' else .any) else .tl t' es' xs i'
  | x => x

def AV.storeAt (t es i o : Nat) (ys : List AV) (x : AV) : AV := x.mapTop (storeLeaf t es i o ys)

section
variable {G : Nat → Status} {w : World} {t es i o b : Nat} {ys : List AV} {vs : List Value} {cur : Array Value} {e : TypeId}

theorem heap_setRow_ne {b' : Nat} {cs : Array Value} (h : b' ≠ b) : (w.setRow b cs).heap[b']? = w.heap[b']? := by
  simp [World.setRow, Array.getElem?_modify, Ne.symm h]

/-- a store into a row that is owned: all that bears the tag is turned -/
theorem VRel.stored (hg : Good G w) (ht : 2 ≤ t) (hb : G b = .tag t) (hh : w.heap[b]? = some (.cells cur e (0, 0))) (ho : o + ys.length ≤ es) (hp : ys ≠ []) (hl : leafAll ys = true)
    (hy : PW (FRel (Stable G) w) ys vs) (h1 : One vs) {x : AV} {v : Value} (h : VRel G w x v) :
    VRel G (w.setRow b (setSeg cur.toList (i * es + o) vs).toArray) (x.storeAt t es i o ys) v := by
  have hset := setRow_heap w b cur (setSeg cur.toList (i * es + o) vs).toArray e (0, 0) hh
  have hF : ∀ {x v}, FRel (Stable G) w x v → FRel (Stable G) (w.setRow b (setSeg cur.toList (i * es + o) vs).toArray) x v := fun hr =>
    hr.mono (fun _ h => h) (fun b' hb' => heap_setRow_ne (fun h => by subst h; unfold Stable at hb'; rw [hb] at hb'; cases hb'))
  have hsl : ∀ {t' es' xs v}, VRel G w (.sl t' es' xs) v → VRel G (w.setRow b (setSeg cur.toList (i * es + o) vs).toArray) (storeLeaf t es i o ys (.sl t' es' xs)) v := by
    intro t' es' xs v h
    simp only [storeLeaf]
    cases h with
    | froz h =>
      have : t' < 2 := by cases h <;> assumption
      rw [if_neg (by omega)]
      exact .froz (hF h)
    | own _ _ _ _ e' vals h2 h3 h4 h5 h0 h6 =>
      by_cases htt : t' = t
      · subst htt
        rw [if_pos rfl]
        by_cases hes : es' = es
        · subst hes
          rw [if_pos rfl]
          have hlen : (updAt xs i o ys).length = xs.length := by simp [updAt]
          rcases h3.2 with ⟨hv, hn⟩ | ⟨g, cap, cur', hv, hgb, hh', hnc, hcm, hcs, hct⟩
          · subst hv
            obtain rfl := List.eq_nil_of_length_eq_zero hn
            have : updAt [] i o ys = [] := by cases i <;> rfl
            rw [this]
            refine .own t' es' [] _ e' vals h2 ⟨h3.1, .inl ⟨rfl, rfl⟩⟩ (fun b hb => by simp [Value.ownBlock] at hb) (by simp) h0 ⟨h6.1, fun j x u hx hu => hF (h6.2 j x u hx hu)⟩
          · subst hv
            obtain rfl := hg.tags _ _ _ (h4 g rfl) hb
            rw [hh] at hh'
            simp only [Option.some.injEq, Obj.cells.injEq, and_true] at hh'
            obtain ⟨rfl, rfl⟩ := hh'
            refine .own t' es' _ _ e (AM.setSeg vals (i * es' + o) vs) h2 ⟨?_, .inr ⟨g, cap, _, by rw [hlen], Nat.zero_le _, hset, by rw [hlen]; exact hnc, hcm, ?_, ?_⟩⟩ (fun b' hb' => ?_) (updAt_width ho hp hl h5) (One.setSeg _ h1 h0) ?_
            · rw [setSeg_length, hlen]; exact h3.1
            · simp only [List.size_toArray, setSeg_length, Array.length_toList]; exact hcs
            · rw [hlen]; simp only [setSeg_take]; rw [hct]
            · simp only [Value.ownBlock, Option.some.injEq] at hb'; rw [← hb']; exact hb
            · rw [updAt_flat ho hp hl xs i h5]
              exact (PW.setSeg _ hy h6).mono fun x y _ hr => hF hr
        · rw [if_neg hes]; exact .froz (.any _)
      · rw [if_neg htt]
        refine .own t' es' xs v e' vals h2 (ownsRow_congr h3 fun b' hb' => heap_setRow_ne (fun h => ?_)) h4 h5 h0 (h6.mono fun x y _ hr => hF hr)
        subst h
        have := h4 _ hb'
        rw [hb] at this; cases this; exact htt rfl
  have hso : ∀ {t' xs v}, t' ≠ t → VRel G w (.so t' xs) v → VRel G (w.setRow b (setSeg cur.toList (i * es + o) vs).toArray) (.so t' (xs.map (storeRow t es i o ys))) v := by
    intro t' xs v hne h
    refine h.so_map h.so_two (fun x u hx hr => ?_) (fun b' hb' => ⟨hb', heap_setRow_ne (fun h => by subst h; rw [hb] at hb'; cases hb'; exact hne rfl)⟩)
    cases x with
    | sl t'' es'' xs'' =>
      have h1 := hsl hr.val
      have h2 : (storeRow t es i o ys (.sl t'' es'' xs'')).rowLike = true := by simp only [storeRow]; split <;> first | rfl | (split <;> rfl)
      refine ⟨h2, h1.toL h2 fun t3 es3 xs3 he h3 => ?_⟩
      simp only [storeLeaf] at he
      split at he
      · rename_i htt
        split at he
        · cases he; rw [← htt]; exact hr.rootOf (by omega)
        · cases he
      · cases he; exact hr.rootOf h3
    | _ => exact ⟨hx, .froz (hF (hr.other (by simp)))⟩
  refine h.mapTop fun x v hx h => ?_
  cases x with
  | so t' xs =>
    simp only [storeLeaf]; split
    · exact .froz (.any _)
    · rename_i hne; exact hso hne h
  | po t' xs i' =>
    obtain ⟨b', off, c, h2, h3, rfl⟩ := h.po_inv
    simp only [storeLeaf]; split
    · exact .froz (.any _)
    · rename_i hne; exact (hso hne h2).po_of (by simp) h3
  | sl t' es' xs => exact hsl h
  | pe t' es' xs i' o' =>
    obtain ⟨b', off, c, h2, h3, rfl⟩ := h.pe_inv
    have := hsl h2
    simp only [storeLeaf] at this ⊢
    by_cases htt : t' = t
    · rw [if_pos htt] at this ⊢
      by_cases hes : es' = es
      · rw [if_pos hes] at this ⊢
        have hlen : (updAt xs i o ys).length = xs.length := by simp [updAt]
        subst hes
        exact .pe _ _ _ _ _ _ off c (by rw [hlen]; exact this) (by rw [hlen]; exact h3)
      · rw [if_neg hes]; exact .froz (.any _)
    · rw [if_neg htt] at this ⊢
      exact .pe _ _ _ _ _ _ _ _ this h3
  | pb i o => obtain ⟨b, hb, rfl⟩ := h.pb_inv; exact .pb _ _ _ hb
  | ag cs => simp [AV.leafy] at hx
  | tup cs => simp [AV.leafy] at hx
  | any => exact .froz (.any _)
  | nil => rw [h.nil_inv]; exact .froz .nil
  | ub => obtain ⟨b, rfl⟩ := h.ub_inv; exact .froz (.ub b)
  | sc u => rw [h.sc_inv]; exact .froz (.sc _)
  | fn g caps => cases h with | froz h => exact .froz (hF h)
  | mp t' P k e' D => exact h.mpMono (fun _ hb => hb) (fun b' es cl _ hm => heap_setRow_ne (fun h => by subst h; rw [hh] at hm; cases hm))
  | cl g caps => exact h.clMono (fun _ h => h) (fun b' hb' => heap_setRow_ne (fun h => by subst h; unfold Stable at hb'; rw [hb] at hb'; cases hb')) (fun _ _ h => h)
  | tl t' es' xs i' =>
    obtain ⟨b', off, off', c, h2, h3, h4, _, rfl⟩ := h.tl_inv
    have := hsl h2
    simp only [storeLeaf] at this ⊢
    by_cases htt : t' = t
    · rw [if_pos htt] at this ⊢
      by_cases hes : es' = es
      · rw [if_pos hes] at this ⊢
        have hlen : (updAt xs i o ys).length = xs.length := by simp [updAt]
        subst hes
        have := VRel.tl t es' (updAt xs i o ys) i' b' off off' c (by rw [hlen]; exact this) (by rw [hlen]; exact h3) h4
        rw [hlen] at this; exact this
      · rw [if_neg hes]; exact .froz (.any _)
    · rw [if_neg htt] at this ⊢
      exact .tl _ _ _ _ _ _ _ _ this h3 h4
  | fp cs o => cases h with | froz h => exact .froz (hF h)

end
end Go.AM
