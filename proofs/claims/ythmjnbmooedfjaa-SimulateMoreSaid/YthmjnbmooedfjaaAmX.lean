/-
  The abstract machine: maps that the call has made.
-/
import Derived.Test.YthmjnbmooedfjaaAmI
namespace Go.AM
open Go.RowKit

def mapLen : DataW Unit → Nat
  | .map es => es.length
  | _ => 0
def boolAt (D : DataW Unit) (l : Lit) : Bool := match D.atKey l (.lit (.bool false)) with
  | .lit (.bool b) => b
  | _ => false
def intAt (q : IntKind) (D : DataW Unit) (l : Lit) : Int := match D.atKey l (.lit (.int q 0)) with
  | .lit (.int _ a) => a
  | _ => 0

section
variable {P : Program}

theorem ownsMap_len {k : TypeId} {R : Value → Option (DataW Unit × List MemPlace)} {w : World} {b n : Nat} {D : DataW Unit} (h : w.ownsMap P k R b n D) :
    w.ownsMap P k R b (mapLen D) D ∧ ∃ es cl, w.heap[b]? = some (.map es cl) ∧ es.size = mapLen D := by
  obtain ⟨es, cl, h1, h2, h3, rfl⟩ := h
  have e : es.size = mapLen (.map ((es.toList.map (Go.WideElems.rg P k R)).foldr DataW.insert [])) := by simp only [mapLen]; rw [length_sorted]; simp
  exact ⟨⟨es, cl, h1, h2, by omega, rfl⟩, es, cl, h1, e⟩

/-- a key's type is one of these -/
def keyKind : Option TypeDesc → Bool
  | some .string => true
  | some .bool => true
  | some (.int _) => true
  | _ => false
theorem keyKind_keyed {k : TypeId} (h : keyKind (P.underlying k) = true) : Go.Maps.Keyed P k := by
  unfold keyKind at h
  split at h
  · exact Go.Maps.string_keyed (by assumption)
  · exact Go.Maps.bool_keyed (by assumption)
  · exact Go.Maps.int_keyed (by assumption)
  · cases h

/-! ### made -/
def evMakeMap (P : Program) (d : Nat) (T : TypeId) (K : AV → Prop) : Prop :=
  match P.underlying T with
  | some (.map k e) => K (.mp (64 * (d + 1)) P k e (.map []))
  | _ => False
theorem evMakeMap_sound {d : Nat} {T : TypeId} {K : AV → Prop} (h : evMakeMap P d T K) : ∃ r, K r ∧ ∀ (G : Nat → Status) (w : World), Good G w → Fresh d G → Does P d G w (Instr.makeMap T none) r := by
  unfold evMakeMap at h
  split at h
  · refine ⟨_, h, fun G w hg hf => ?_⟩
    refine ⟨_, _, updG G w.heap.size (.tag (64 * (d + 1))), run_makeMap T w, ?_, .alloc _ _, hg.upd _ _ (Nat.le_refl _) (by simp) (by simp) (fun t ht b hb => ?_) (fun i h => by cases h), .upd hf.own⟩
    · exact .mp _ P _ _ _ _ 0 (by omega) (by simp [updG]) (World.ownsMap_made w P _ _)
    · cases ht
      have := hf.2 b _ hb
      have := hf.1
      unfold root at *; omega
  · exact h.elim

/-! ### read -/
def evLookup (P : Program) (T : TypeId) (x ix : AV) (K : AV → Prop) : Prop :=
  match x, ix with
  | .mp _ P' k e D, .sc kv => P' = P ∧ P.underlying T = some (.map k e) ∧ keyKind (P.underlying k) = true ∧ ∃ kl, keyOf P k kv = some kl ∧
      ∃ q, tinfo P e = some q ∧ match P.underlying e with
      | some .bool => q.2.2 = some (.bool false) ∧ K (.sc (.bool (boolAt D kl)))
      | some (.int i) => q.2.2 = some (.int i 0) ∧ K (.sc (.int i (intAt i D kl)))
      | _ => False
  | _, _ => False
theorem run_zero {e : TypeId} {q : Nat × Nat × Option Value} {z : Value} (hq : tinfo P e = some q) (hz : q.2.2 = some z) (w : World) : (zeroValue e).run P w = .ok z w := by
  obtain ⟨sz, by_, z'⟩ := q
  simp only at hz; subst hz
  obtain ⟨i, hi, _, _, h⟩ := tinfo_some hq
  simp [zeroValue, typeInfo, hi, h]
theorem evLookup_sound {T : TypeId} {x ix : AV} {K : AV → Prop} (h : evLookup P T x ix K) : ∃ r, K r ∧ ∀ (d : Nat) (G : Nat → Status) (w : World) (v u : Value), Good G w → VRel G w x v → VRel G w ix u → Does P d G w (Instr.lookup T v u false) r := by
  unfold evLookup at h
  split at h
  · rename_i t P' k e D kv
    obtain ⟨rfl, hT, hk, kl, hkl, q, hq, h⟩ := h
    have hK := keyKind_keyed hk
    split at h
    · rename_i he
      obtain ⟨hz, hk⟩ := h
      refine ⟨_, hk, fun d G w v u hg hv hu => ?_⟩
      obtain rfl := hu.sc_inv
      cases hv with
      | froz h => cases h
      | mp _ _ _ _ _ b n h1 h2 h3 =>
        obtain ⟨v, ps, hrun, hR⟩ := h3.lookup hK hT (run_zero hq hz w) (plainElem_bool he false) hkl
        refine .pure hg hrun ?_
        have : v = .bool (boolAt D kl) := by
          unfold plainElem at hR
          rw [he] at hR
          cases v <;> simp at hR
          rename_i x
          have e1 := hR.1
          unfold boolAt
          rw [← e1]
        rw [this]; exact .froz (.sc _)
    · rename_i i he
      obtain ⟨hz, hk⟩ := h
      refine ⟨_, hk, fun d G w v u hg hv hu => ?_⟩
      obtain rfl := hu.sc_inv
      cases hv with
      | froz h => cases h
      | mp _ _ _ _ _ b n h1 h2 h3 =>
        obtain ⟨c, hrun, hat, _⟩ := h3.lookup_int hK hT he (run_zero hq hz w) hkl
        refine .pure hg hrun ?_
        have : c = intAt i D kl := by unfold intAt; rw [hat]
        rw [this]; exact .froz (.sc _)
    · exact h.elim
  · exact h.elim

/-! ### how many -/
def isMap : Option TypeDesc → Bool
  | some (.map _ _) => true
  | _ => false
theorem len_map {T : TypeId} {t : Nat} {P' : Program} {k e : TypeId} {D : DataW Unit} (hT : isMap (P.underlying T) = true) {ty : TypeId} {d : Nat} {G : Nat → Status} {w : World} {v : Value} (hg : Good G w) (hv : VRel G w (.mp t P' k e D) v) :
    Does P d G w (Builtin.len_ #[T] ty #[v]) (.sc (.int .i64 (mapLen D))) := by
  cases hT2 : P.underlying T with
  | none => rw [hT2] at hT; cases hT
  | some dd =>
  cases dd <;> rw [hT2] at hT <;> first | (cases hT; done) | skip
  · cases hv with
    | froz h => cases h
    | mp _ _ _ _ _ b n h1 h2 h3 =>
      obtain ⟨_, es, cl, g1, g2⟩ := ownsMap_len h3
      refine .pure (v := .int .i64 (mapLen D)) hg ?_ (.froz (.sc _))
      simp [Builtin.len_, run_underlying hT2, Go.MapKept.run_getObj_map g1, goInt, g2]

/-! ### written -/
def evLenM (P : Program) (T : TypeId) (x : AV) (K : AV → Prop) : Prop :=
  match x with
  | .mp _ _ _ _ D => isMap (P.underlying T) = true ∧ K (.sc (.int .i64 (mapLen D)))
  | x => evLen P T x K
theorem evLenM_sound {T : TypeId} {x : AV} {K : AV → Prop} (h : evLenM P T x K) :
    ∃ r, K r ∧ ∀ (ty : TypeId) (d : Nat) (G : Nat → Status) (w : World) (v : Value), Good G w → VRel G w x v → Does P d G w (Builtin.len_ #[T] ty #[v]) r := by
  unfold evLenM at h
  split at h
  · exact ⟨_, h.2, fun ty d G w v hg hv => len_map h.1 hg hv⟩
  · exact evLen_sound h

def putMap (t : Nat) (P : Program) (k e : TypeId) (D' : DataW Unit) : AV → AV
  | .mp t' P' k' e' D => if t' = t then .mp t P k e D' else .mp t' P' k' e' D
  | x => killLeaf t x
end
end Go.AM
