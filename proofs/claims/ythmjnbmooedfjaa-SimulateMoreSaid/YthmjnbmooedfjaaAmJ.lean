/-
  The abstract machine: an operation by its form.
-/
import Derived.Test.YthmjnbmooedfjaaAmX
namespace Go.AM
open Go.RowKit

/-- an operand that is written out -/
def ofLit (v : Value) : AV :=
  match v with
  | .agg cs => if (cs.toList.all fun u => u.oneCell') = true then .ag (cs.toList.map leafConst) else .any
  | v => leafConst v

theorem ofLit_rel {G : Nat → Status} {w : World} (v : Value) : VRel G w (ofLit v) v := by
  have hleaf : ∀ u : Value, FRel (Stable G) w (leafConst u) u := fun u => by
    unfold leafConst; split
    · exact .nil
    · exact .sc _
  unfold ofLit
  split
  · rename_i cs
    split
    · rename_i h
      refine .froz (.ag _ cs (by simp) (fun u hu => List.all_eq_true.1 h u hu) fun j x u hx hu => ?_)
      simp only [List.getElem?_map, hu, Option.map_some, Option.some.injEq] at hx
      rw [← hx]; exact hleaf u
    · exact .froz (.any _)
  · exact .froz (hleaf _)

section
variable {P : Program}

def typed (_P : Program) (_d : Nat) (_T : TypeId) (x : AV) : AV := x
theorem typed_rel {G : Nat → Status} {w : World} {d : Nat} {T : TypeId} {x : AV} {v : Value} (h : VRel G w x v) : VRel G w (typed P d T x) v := h

def isFn : AV → Bool
  | .fn _ _ => true
  | _ => false

/-- what a closure may hold -/
def capOk : AV → Bool
  | .pb _ _ => true
  | x => fzLeaf x
theorem VRel.cap {G : Nat → Status} {w : World} {x : AV} {v : Value} (h : VRel G w x v) (hx : capOk x = true) : CapRel G w x v := by
  cases x with
  | pb i o => obtain ⟨b, hb, rfl⟩ := h.pb_inv; exact .inl ⟨i, o, b, rfl, hb, rfl⟩
  | _ => exact .inr (h.fzLeaf hx)
theorem CapRel.val {G : Nat → Status} {w : World} {x : AV} {v : Value} (h : CapRel G w x v) : VRel G w x v := by
  rcases h with ⟨i, o, b, rfl, hb, rfl⟩ | h
  · exact .pb i o b hb
  · exact .froz h

def evOp (P : Program) (d : Nat) (ρ : Operand → AV) (bx : List (List AV)) (T : TypeId) (op : Op) (K : AV → Prop) : Prop :=
  match op with
  | .move x => K (typed P d T (ρ x))
  | .assign x => K (typed P d T (ρ x))
  | .pick c a b => match ρ c with
    | .sc (.bool t) => (t = true → K (ρ a)) ∧ (t = false → K (ρ b))
    | _ => False
  | .load T a => evLoad P bx T (ρ a) K
  | .nilCheck x => (isPtr (ρ x) = true ∨ isFn (ρ x) = true) ∧ K (ρ x)
  | .binOp op T x y _ => evBinOp P op T (ρ x) (ρ y) K
  | .unOp op _ x => evUn op (ρ x) K
  | .convert s t x => evConv P s t (ρ x) K
  | .slice T x lo hi mx => evSlice P T (ρ x) (lo.map ρ) (hi.map ρ) (mx.map ρ) K
  | .fieldAddr T x f => evFieldAddr P T (ρ x) f K
  | .field T x f => evField P T (ρ x) f K
  | .indexAddr T x i => evIndexAddr P T (ρ x) (ρ i) K
  | .index T x i => evIndex P T (ρ x) (ρ i) K
  | .extract x i => evExtract (ρ x) i K
  | .build T ps => evBuild P T (ps.toList.map fun p => (p.1, ρ p.2)) K
  | .buildSlice T n ps => evBuildSlice P d T n (ps.toList.map fun p => (p.1, ρ p.2)) K
  | .makeSlice T l c => evMake P d T (ρ l) (ρ c) K
  | .makeFunc (.func f) first caps => first.toList = [] ∧ if (caps.toList.all fun x => fzLeaf (ρ x)) = true then K (.fn f (caps.toList.map ρ)) else (caps.toList.all fun x => capOk (ρ x)) = true ∧ K (.cl f (caps.toList.map ρ))
  | .call { callee := .builtin .len, args, argTypes } => match args.toList, argTypes.toList with
    | [x], [T] => evLenM P T (ρ x) K
    | _, _ => False
  | .call { callee := .builtin .cap, args, argTypes } => match args.toList, argTypes.toList with
    | [x], [T] => evCap P T (ρ x) K
    | _, _ => False
  | .call { callee := .builtin .max, args, argTypes := _ } => match args.toList with
    | [x, y] => evMax (ρ x) (ρ y) K
    | _ => False
  | .call { callee := .builtin .min, args, argTypes := _ } => match args.toList with
    | [x, y] => evMin (ρ x) (ρ y) K
    | _ => False
  | .call { callee := .builtin .append, args, argTypes } => match args.toList, argTypes.toList with
    | [x, y], [T, T'] => evAppendX P d T T' (ρ x) (ρ y) K
    | _, _ => False
  | .makeMap T none => evMakeMap P d T K
  | .alloc T => evAllocE P d T K
  | .lookup T x ix false => evLookup P T (ρ x) (ρ ix) K
  | _ => False

def needsFresh : Op → Bool
  | .buildSlice .. => true
  | .makeSlice .. => true
  | .makeMap .. => true
  | .alloc _ => true
  | .call { callee := .builtin .append, .. } => true
  | _ => false

/-- the operation yields what r stands for, and only adds to memory -/
def Yields1 (P : Program) (d : Nat) (G : Nat → Status) (w : World) (s : Sem Next) (r : AV) : Prop :=
  ∃ v w' G', s.run P w = .ok (.value v) w' ∧ VRel G' w' r v ∧ Ext G w G' w' ∧ Good G' w' ∧ NewTags d G G'

theorem Does.yields {d : Nat} {G : Nat → Status} {w : World} {s : Sem Value} {r : AV} (h : Does P d G w s r) : Yields1 P d G w (do Pure.pure (Next.value (← s)) : Sem Next) r := by
  obtain ⟨v, w', G', h1, h2⟩ := h
  exact ⟨v, w', G', by simp [h1], h2⟩

theorem arr_eq {α : Type} {a : Array α} {l : List α} (h : a.toList = l) : a = l.toArray := by rw [← h]

theorem PW.parts {G : Nat → Status} {w : World} {ρ : Operand → AV} {ρ' : Operand → Value} (ps : Array (Nat × Operand)) (h : ∀ p ∈ ps.toList, VRel G w (ρ p.2) (ρ' p.2)) :
    PW (fun (p : Nat × AV) (q : Nat × Value) => p.1 = q.1 ∧ VRel G w p.2 q.2) (ps.toList.map fun p => (p.1, ρ p.2)) (ps.map fun p => (p.1, ρ' p.2)).toList := by
  rw [Array.toList_map]
  refine ⟨by simp, fun j x y hx hy => ?_⟩
  simp only [List.getElem?_map] at hx hy
  cases hj : ps.toList[j]? with
  | none => simp [hj] at hx
  | some p => simp [hj] at hx hy; subst hx; subst hy; exact ⟨rfl, h p (List.mem_of_getElem? hj)⟩

theorem ORel.map {G : Nat → Status} {w : World} {ρ : Operand → AV} {ρ' : Operand → Value} (x : Option Operand) (h : ∀ y, x = some y → VRel G w (ρ y) (ρ' y)) : ORel G w (x.map ρ) (x.map ρ') := by
  cases x with
  | none => trivial
  | some x => exact h x rfl

theorem evOp_sound {d : Nat} {ρ : Operand → AV} {bx : List (List AV)} {T : TypeId} {op : Op} {K : AV → Prop} (h : evOp P d ρ bx T op K) :
    ∃ r, K r ∧ ∀ (o : Oper) (gh : Gh) (G : Nat → Status) (w : World) (ρ' : Operand → Value), o.op = op → Good G w → (needsFresh op = true → Fresh d G) → BRel gh G w bx →
      (∀ x ∈ op.operands, VRel G w (ρ x) (ρ' x)) → Yields1 P d G w (execOp ρ' o) r := by
  unfold evOp at h
  split at h
  case h_1 x => exact ⟨_, h, fun o gh G w ρ' ho hg hf hb hr => ⟨_, w, G, by simp [execOp, ho], typed_rel (hr x (by simp [Op.operands])), .refl G w, hg, .refl d G⟩⟩
  case h_2 x => exact ⟨_, h, fun o gh G w ρ' ho hg hf hb hr => ⟨_, w, G, by simp [execOp, ho], typed_rel (hr x (by simp [Op.operands])), .refl G w, hg, .refl d G⟩⟩
  case h_3 c a b =>
    split at h
    · rename_i t hc
      refine ⟨if t then ρ a else ρ b, by cases t; exact h.2 rfl; exact h.1 rfl, fun o gh G w ρ' ho hg hf hb hr => ?_⟩
      have h1 := hr c (by simp [Op.operands])
      rw [hc] at h1
      refine ⟨if t then ρ' a else ρ' b, w, G, by simp [execOp, ho, h1.sc_inv, asBool], ?_, .refl G w, hg, .refl d G⟩
      cases t
      · exact hr b (by simp [Op.operands])
      · exact hr a (by simp [Op.operands])
    · exact h.elim
  case h_4 T' a =>
    obtain ⟨r, hK, hr⟩ := evLoad_sound h
    exact ⟨r, hK, fun o gh G w ρ' ho hg hf hb hv => by have := (hr d gh G w (ρ' a) hg hb (hv a (by simp [Op.operands]))).yields; simpa [execOp, ho] using this⟩
  case h_5 x =>
    obtain ⟨hp, hK⟩ := h
    refine ⟨_, hK, fun o gh G w ρ' ho hg hf hb hr => ?_⟩
    have h1 := hr x (by simp [Op.operands])
    rcases hp with hp | hp
    · obtain ⟨b, o', e, _⟩ := h1.ptr_inv hp
      exact ⟨ρ' x, w, G, by simp [execOp, ho, e], h1, .refl G w, hg, .refl d G⟩
    · cases hx : ρ x <;> simp only [hx, isFn, Bool.false_eq_true] at hp
      rw [hx] at h1
      obtain ⟨vs, e, _⟩ := h1.fn_inv
      exact ⟨ρ' x, w, G, by simp [execOp, ho, e], h1, .refl G w, hg, .refl d G⟩
  case h_6 op T' x y _ =>
    obtain ⟨r, hK, hr⟩ := evBinOp_sound x y h
    exact ⟨r, hK, fun o gh G w ρ' ho hg hf hb hv => by have := (hr d G w (ρ' x) (ρ' y) hg (hv x (by simp [Op.operands])) (hv y (by simp [Op.operands]))).yields; simpa [execOp, ho] using this⟩
  case h_7 op _ x =>
    obtain ⟨r, hK, hr⟩ := evUn_sound (P := P) h
    exact ⟨r, hK, fun o gh G w ρ' ho hg hf hb hv => by have := (hr d G w (ρ' x) hg (hv x (by simp [Op.operands]))).yields; simpa [execOp, ho] using this⟩
  case h_8 s t x =>
    obtain ⟨r, hK, hr⟩ := evConv_sound h
    exact ⟨r, hK, fun o gh G w ρ' ho hg hf hb hv => by have := (hr d G w (ρ' x) hg (hv x (by simp [Op.operands]))).yields; simpa [execOp, ho] using this⟩
  case h_9 T' x lo hi mx =>
    obtain ⟨r, hK, hr⟩ := evSlice_sound h
    refine ⟨r, hK, fun o gh G w ρ' ho hg hf hb hv => ?_⟩
    have := (hr d G w (ρ' x) (lo.map ρ') (hi.map ρ') (mx.map ρ') hg (hv x (by simp [Op.operands])) (.map lo fun y hy => hv y (by simp [Op.operands, hy])) (.map hi fun y hy => hv y (by simp [Op.operands, hy])) (.map mx fun y hy => hv y (by simp [Op.operands, hy]))).yields
    simpa [execOp, ho] using this
  case h_10 T' x f =>
    obtain ⟨r, hK, hr⟩ := evFieldAddr_sound h
    exact ⟨r, hK, fun o gh G w ρ' ho hg hf hb hv => by have := (hr d G w (ρ' x) hg (hv x (by simp [Op.operands]))).yields; simpa [execOp, ho] using this⟩
  case h_11 T' x f =>
    obtain ⟨r, hK, hr⟩ := evField_sound h
    exact ⟨r, hK, fun o gh G w ρ' ho hg hf hb hv => by have := (hr d G w (ρ' x) hg (hv x (by simp [Op.operands]))).yields; simpa [execOp, ho] using this⟩
  case h_12 T' x i =>
    obtain ⟨r, hK, hr⟩ := evIndexAddr_sound h
    exact ⟨r, hK, fun o gh G w ρ' ho hg hf hb hv => by have := (hr d G w (ρ' x) (ρ' i) hg (hv x (by simp [Op.operands])) (hv i (by simp [Op.operands]))).yields; simpa [execOp, ho] using this⟩
  case h_13 T' x i =>
    obtain ⟨r, hK, hr⟩ := evIndex_sound h
    exact ⟨r, hK, fun o gh G w ρ' ho hg hf hb hv => by have := (hr d G w (ρ' x) (ρ' i) hg (hv x (by simp [Op.operands])) (hv i (by simp [Op.operands]))).yields; simpa [execOp, ho] using this⟩
  case h_14 x i =>
    obtain ⟨r, hK, hr⟩ := evExtract_sound (P := P) h
    exact ⟨r, hK, fun o gh G w ρ' ho hg hf hb hv => by have := (hr d G w (ρ' x) hg (hv x (by simp [Op.operands]))).yields; simpa [execOp, ho] using this⟩
  case h_15 T' ps =>
    obtain ⟨r, hK, hr⟩ := evBuild_sound h
    exact ⟨r, hK, fun o gh G w ρ' ho hg hf hb hv => by have := (hr d G w _ hg (PW.parts (ρ' := ρ') ps fun p hp => hv p.2 (by simp only [Op.operands]; exact Array.mem_toList_iff.1 (by simpa using ⟨p.1, by simpa using hp⟩)))).yields; simpa [execOp, ho] using this⟩
  case h_16 T' n ps =>
    obtain ⟨r, hK, hr⟩ := evBuildSlice_sound h
    exact ⟨r, hK, fun o gh G w ρ' ho hg hf hb hv => by have := (hr G w _ hg (hf rfl) (PW.parts (ρ' := ρ') ps fun p hp => hv p.2 (by simp only [Op.operands]; exact Array.mem_toList_iff.1 (by simpa using ⟨p.1, by simpa using hp⟩)))).yields; simpa [execOp, ho] using this⟩
  case h_17 T' l c =>
    obtain ⟨r, hK, hr⟩ := evMake_sound h
    exact ⟨r, hK, fun o gh G w ρ' ho hg hf hb hv => by have := (hr G w (ρ' l) (ρ' c) hg (hf rfl) (hv l (by simp [Op.operands])) (hv c (by simp [Op.operands]))).yields; simpa [execOp, ho] using this⟩
  case h_18 f first caps =>
    obtain ⟨h1, h⟩ := h
    split at h
    case isFalse =>
      obtain ⟨h2, hK⟩ := h
      refine ⟨_, hK, fun o gh G w ρ' ho hg hf hb hv => ?_⟩
      have h1 := arr_eq h1
      subst h1
      refine ⟨.func (.func f) #[] (caps.map ρ'), w, G, ?_, .cl f _ _ ⟨by simp, fun j x u hx hu => ?_⟩, .refl G w, hg, .refl d G⟩
      · simp [execOp, ho, Instr.makeFunc]
      · rw [Array.toList_map] at hu
        simp only [List.getElem?_map] at hx hu
        cases hj : caps.toList[j]? with
        | none => simp [hj] at hx
        | some c =>
          simp [hj] at hx hu; subst hx; subst hu
          have hc : c ∈ caps.toList := List.mem_of_getElem? hj
          exact (hv c (by simp [Op.operands]; simpa using hc)).cap (List.all_eq_true.1 h2 c hc)
    rename_i h2
    have hK := h
    refine ⟨_, hK, fun o gh G w ρ' ho hg hf hb hv => ?_⟩
    have h1 := arr_eq h1
    subst h1
    refine ⟨.func (.func f) #[] (caps.map ρ'), w, G, ?_, .froz (.fn f _ _ (by simp) fun j x u hx hu => ?_), .refl G w, hg, .refl d G⟩
    · simp [execOp, ho, Instr.makeFunc]
    · rw [Array.toList_map] at hu
      simp only [List.getElem?_map] at hx hu
      cases hj : caps.toList[j]? with
      | none => simp [hj] at hx
      | some c =>
        simp [hj] at hx hu; subst hx; subst hu
        have hc : c ∈ caps.toList := List.mem_of_getElem? hj
        exact (hv c (by simp [Op.operands]; simpa using hc)).fzLeaf (List.all_eq_true.1 h2 c hc)
  case h_19 args As =>
    split at h
    · rename_i x T' h1 h2
      have h1 := arr_eq h1; have h2 := arr_eq h2; subst h1; subst h2
      obtain ⟨r, hK, hr⟩ := evLenM_sound h
      exact ⟨r, hK, fun o gh G w ρ' ho hg hf hb hv => by have := (hr o.type d G w (ρ' x) hg (hv x (by simp [Op.operands, Call.operands]))).yields; simpa [execOp, ho, resolve, invoke, builtin] using this⟩
    · exact h.elim
  case h_20 args As =>
    split at h
    · rename_i x T' h1 h2
      have h1 := arr_eq h1; have h2 := arr_eq h2; subst h1; subst h2
      obtain ⟨r, hK, hr⟩ := evCap_sound h
      exact ⟨r, hK, fun o gh G w ρ' ho hg hf hb hv => by have := (hr o.type d G w (ρ' x) hg (hv x (by simp [Op.operands, Call.operands]))).yields; simpa [execOp, ho, resolve, invoke, builtin] using this⟩
    · exact h.elim
  case h_21 args As =>
    split at h
    · rename_i x y h1
      have h1 := arr_eq h1; subst h1
      obtain ⟨r, hK, hr⟩ := evMax_sound (P := P) h
      exact ⟨r, hK, fun o gh G w ρ' ho hg hf hb hv => by have := (hr As o.type d G w (ρ' x) (ρ' y) hg (hv x (by simp [Op.operands, Call.operands])) (hv y (by simp [Op.operands, Call.operands]))).yields; simpa [execOp, ho, resolve, invoke, builtin] using this⟩
    · exact h.elim
  case h_22 args As =>
    split at h
    · rename_i x y h1
      have h1 := arr_eq h1; subst h1
      obtain ⟨r, hK, hr⟩ := evMin_sound (P := P) h
      exact ⟨r, hK, fun o gh G w ρ' ho hg hf hb hv => by have := (hr As o.type d G w (ρ' x) (ρ' y) hg (hv x (by simp [Op.operands, Call.operands])) (hv y (by simp [Op.operands, Call.operands]))).yields; simpa [execOp, ho, resolve, invoke, builtin] using this⟩
    · exact h.elim
  case h_23 args As =>
    split at h
    · rename_i x y T' T'' h1 h2
      have h1 := arr_eq h1; have h2 := arr_eq h2; subst h1; subst h2
      obtain ⟨r, hK, hr⟩ := evAppendX_sound h
      exact ⟨r, hK, fun o gh G w ρ' ho hg hf hb hv => by have := (hr o.type G w (ρ' x) (ρ' y) hg (hf rfl) (hv x (by simp [Op.operands, Call.operands])) (hv y (by simp [Op.operands, Call.operands]))).yields; simpa [execOp, ho, resolve, invoke, builtin] using this⟩
    · exact h.elim
  case h_24 T' =>
    obtain ⟨r, hK, hr⟩ := evMakeMap_sound h
    exact ⟨r, hK, fun o gh G w ρ' ho hg hf hb hv => by have := (hr G w hg (hf rfl)).yields; simpa [execOp, ho] using this⟩
  case h_25 T' =>
    obtain ⟨r, h1, h2⟩ := evAllocE_sound h
    exact ⟨r, h1, fun o gh G w ρ' ho hg hf hb hr => by simp only [execOp, ho]; exact (h2 G w hg (hf rfl)).yields⟩
  case h_26 T' x ix =>
    obtain ⟨r, hK, hr⟩ := evLookup_sound h
    exact ⟨r, hK, fun o gh G w ρ' ho hg hf hb hv => by have := (hr d G w (ρ' x) (ρ' ix) hg (hv x (by simp [Op.operands])) (hv ix (by simp [Op.operands]))).yields; simpa [execOp, ho] using this⟩
  case h_27 => exact h.elim

end
end Go.AM
