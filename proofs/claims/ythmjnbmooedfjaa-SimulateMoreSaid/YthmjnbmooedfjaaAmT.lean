/-
  From the contract of a law to its row: arguments as they are read, and what the row asks behind the call.
-/
import Derived.ProofKit
import Derived.Deep.Slices
import Derived.OpenShut
import Derived.Test.YthmjnbmooedfjaaAmS
namespace Go.AM
open Go Go.RowKit Go.WideShapes Go.ChangeShapes

/-- what was there before the call is never written -/
def oldG (w : World) (b : Nat) : Status := if b < w.heap.size then .stable else .junk
theorem oldG_lt {w : World} {b : Nat} (h : b < w.heap.size) : Stable (oldG w) b := by simp [Stable, oldG, h]
theorem oldG_tag (w : World) (b t : Nat) : oldG w b ≠ .tag t := by unfold oldG; split <;> simp
theorem oldG_box (w : World) (b t : Nat) : oldG w b ≠ .box t := by unfold oldG; split <;> simp
theorem oldG_good (w : World) : Good (oldG w) w := by
  refine ⟨fun b h => ?_, fun b b' t h => absurd h (oldG_tag w b t), fun b b' t h => absurd h (oldG_box w b t)⟩
  unfold oldG at h; split at h
  · assumption
  · exact absurd rfl h

theorem cell_old {w : World} {a : Addr} {v : Value} (h : w.cell? a = some v) : a.block < w.heap.size := by
  unfold World.cell? at h
  rcases Nat.lt_or_ge a.block w.heap.size with h' | h'
  · exact h'
  · rw [Array.getElem?_eq_none h'] at h; simp at h

section
variable {H : Type} {enc : TypeId × Value → H} {P : Program} {w : World} {base : Nat} {spare : Nat → Bool} {held : Bool}

/-- how a datum of one cell stands -/
def Stands (enc : TypeId × Value → H) (P : Program) (w : World) (base : Nat) (spare : Nat → Bool) (held : Bool) (e : TypeId) (f : DataW H → AV) : Prop :=
  ∀ n v d ps, DataW.trod enc P w base spare held n e [v] = some (d, ps) → FRel (Stable (oldG w)) w (f d) v ∧ (f d).leafy = true ∧ v.oneCell' = true

def avInt : DataW H → AV
  | .lit (.int k n) => .sc (.int k n)
  | _ => .any
def avBool : DataW H → AV
  | .lit (.bool b) => .sc (.bool b)
  | _ => .any
def avStr : DataW H → AV
  | .lit (.string l) => .sc (.string ⟨l.toArray⟩)
  | _ => .any
def avSl (f : DataW H → AV) : DataW H → AV
  | .slice xs _ => .sl 0 1 (xs.map f)
  | _ => .sl 0 1 []

theorem stands_int {e : TypeId} {k : IntKind} (he : P.underlying e = some (.int k)) : Stands enc P w base spare held e avInt := by
  intro n v d ps h
  obtain ⟨x, e0, e1, wx⟩ := DataW.trod_int he h
  simp only [List.cons.injEq, and_true] at e0
  simp only [Prod.mk.injEq] at e1
  obtain ⟨rfl, _⟩ := e1
  subst e0
  exact ⟨.sc _, rfl, rfl⟩
/-- the number that a datum is -/
def numI : DataW H → Int
  | .lit (.int _ n) => n
  | _ => 0
/-- the elements' images -/
def rowOf {α : Type} (f : DataW H → α) : DataW H → List α
  | .slice xs _ => xs.map f
  | _ => []
theorem stands_i64 {e : TypeId} (he : P.underlying e = some (.int .i64)) : Stands enc P w base spare held e fun d => .sc (.int .i64 (numI d)) := by
  intro n v d ps h
  obtain ⟨x, e0, e1, wx⟩ := DataW.trod_int he h
  simp only [List.cons.injEq, and_true] at e0
  simp only [Prod.mk.injEq] at e1
  obtain ⟨rfl, _⟩ := e1
  subst e0
  exact ⟨.sc _, rfl, rfl⟩
theorem avSl_row {α : Type} (g : α → AV) (f : DataW H → α) (d : DataW H) : avSl (fun x => g (f x)) d = .sl 0 1 ((rowOf f d).map g) := by
  cases d <;> simp [avSl, rowOf]
theorem stands_bool {e : TypeId} (he : P.underlying e = some .bool) : Stands enc P w base spare held e avBool := by
  intro n v d ps h
  obtain ⟨x, e0, e1⟩ := DataW.trod_bool he h
  simp only [List.cons.injEq, and_true] at e0
  simp only [Prod.mk.injEq] at e1
  obtain ⟨rfl, _⟩ := e1
  subst e0
  exact ⟨.sc _, rfl, rfl⟩
theorem stands_string {e : TypeId} (he : P.underlying e = some .string) : Stands enc P w base spare held e avStr := by
  intro n v d ps h
  obtain ⟨x, e0, e1, _⟩ := DataW.trod_string he h
  simp only [List.cons.injEq, and_true] at e0
  simp only [Prod.mk.injEq] at e1
  obtain ⟨rfl, _⟩ := e1
  subst e0
  refine ⟨?_, rfl, rfl⟩
  simp only [avStr, Array.toArray_toList]
  exact .sc _

theorem flat_leafy {xs : List AV} (h : ∀ x ∈ xs, x.leafy = true) : flat xs = xs := by
  induction xs with
  | nil => rfl
  | cons x xs ih =>
    have hx := h x (by simp)
    have hc : x.cells = [x] := by cases x <;> first | rfl | (simp [AV.leafy] at hx)
    have := ih fun y hy => h y (by simp [hy])
    simp only [flat, List.flatMap_cons, hc] at this ⊢
    rw [this]; rfl

theorem stands_slice {t e : TypeId} {f : DataW H → AV} (ht : P.underlying t = some (.slice e)) (hc : P.cellsOf e = 1) (hf : Stands enc P w base spare held e f) : Stands enc P w base spare held t (avSl f) := by
  intro n v d ps h
  rcases Go.Deep.open_slice1 ht hc h with ⟨h1, h2⟩ | ⟨a, len, cap, m, n', V, D, Pl, h1, _, hl, _, hm, h2, hel⟩
  · simp only [List.cons.injEq, and_true] at h1
    simp only [Prod.mk.injEq] at h2
    obtain ⟨rfl, _⟩ := h2
    subst h1
    exact ⟨.slNil _ _ _ _ (by omega) (by simp) (by simp), rfl, rfl⟩
  · simp only [List.cons.injEq, and_true] at h1
    simp only [Prod.mk.injEq] at h2
    obtain ⟨rfl, _⟩ := h2
    subst h1
    refine ⟨?_, rfl, rfl⟩
    have hlm : len ≤ m := by rw [hm]; split <;> omega
    simp only [avSl, List.map_map]
    rcases Nat.eq_zero_or_pos len with h0 | hp
    · subst h0
      exact .slNil _ _ _ _ (by omega) (by simp) (by simp)
    · obtain ⟨b, off, spot⟩ := a
      have hspot : spot = none := by simpa [Addr.add] using World.cell?_spot (hel 0 (by omega)).1
      subst hspot
      have hlen : ((List.range len).map (f ∘ D)).length = len := by simp
      have hone : ∀ i, i < len → FRel (Stable (oldG w)) w (f (D i)) (V i) ∧ (f (D i)).leafy = true ∧ (V i).oneCell' = true := fun i hi => hf n' (V i) (D i) (Pl i) (hel i (by omega)).2
      have hleaf : ∀ x ∈ (List.range len).map (f ∘ D), x.leafy = true := by
        intro x hx
        obtain ⟨i, hi, rfl⟩ := List.mem_map.1 hx
        exact (hone i (List.mem_range.1 hi)).2.1
      have hb : b < w.heap.size := cell_old (a := (Addr.mk b off none).add 0) (hel 0 (by omega)).1
      have := FRel.sl (S := Stable (oldG w)) (w := w) 0 1 ((List.range len).map (f ∘ D)) b off cap ((List.range len).map V) (by omega) (oldG_lt hb) (by simp) (by rw [hlen]; exact hl)
        (fun x hx => by have h := hleaf x hx; cases x <;> first | rfl | (simp [AV.leafy] at h)) (by rw [flat_leafy hleaf]; simp)
        (fun u hu => by obtain ⟨i, hi, rfl⟩ := List.mem_map.1 hu; exact (hone i (List.mem_range.1 hi)).2.2)
        (fun j u hj => by
          have hjl : j < len := by have := (List.getElem?_eq_some_iff.1 hj).1; simpa using this
          simp only [List.getElem?_map, List.getElem?_range hjl, Option.map_some, Option.some.injEq] at hj
          subst hj
          have := (hel j (by omega)).1
          rwa [Go.WideShapes.add_plain] at this)
        (fun j x u hx hu => by
          rw [flat_leafy hleaf] at hx
          have hjl : j < len := by have := (List.getElem?_eq_some_iff.1 hx).1; simpa using this
          simp only [List.getElem?_map, List.getElem?_range hjl, Option.map_some, Option.some.injEq] at hx hu
          subst hx; subst hu
          exact (hone j hjl).1)
      rw [hlen] at this
      exact this

/-- one argument of one cell -/
theorem Stands.arg {t : TypeId} {f : DataW H → AV} {v : Value} {d : DataW H} {ps : List MemPlace} (hs : Stands enc P w base spare held t f) (h1 : v.cells.toList = [v]) (h : DataW.Trod enc P w base spare held t v d ps) : VRel (oldG w) w (f d) v := by
  obtain ⟨n, hn⟩ := h
  rw [h1] at hn
  exact .froz (hs n v d ps hn).1

theorem trodAll_stays (hl : laidOutB P = true) {W W' : World} {sp : Nat → Bool} (hb : Go.RowKit.Below W.heap.size W W') : ∀ {ts : List TypeId} {vs : List Value} {ds : List (DataW H)} {ps : List MemPlace}, (∀ t ∈ ts, P.readableRec t = true ∧ t < P.types.size) →
    DataW.TrodAll enc P W 0 (fun _ => true) true ts vs ds ps → (∀ p ∈ ps, p.block < W.heap.size) → (∀ p ∈ ps, sp p.block = true) → DataW.TrodAll enc P W' 0 sp true ts vs ds ps
  | [], vs, ds, ps, _, h, _, _ => by
    cases vs <;> cases ds <;> simp only [DataW.TrodAll] at h ⊢ <;> first | exact h | exact h.elim
  | t :: ts, vs, ds, ps, hr, h, h1, h2 => by
    cases vs with
    | nil => cases ds <;> simp only [DataW.TrodAll] at h
    | cons v vs =>
      cases ds with
      | nil => simp only [DataW.TrodAll] at h
      | cons d ds =>
        simp only [DataW.TrodAll] at h ⊢
        obtain ⟨p, q, hp, hq, rfl⟩ := h
        exact ⟨p, q, WideElems.Trod_stays hl (hr t (by simp)).1 (hr t (by simp)).2 hp (fun x hx => hb.same (h1 x (by simp [hx]))) (fun x hx => h2 x (by simp [hx])),
          trodAll_stays hl hb (fun t' ht' => hr t' (by simp [ht'])) hq (fun x hx => h1 x (by simp [hx])) (fun x hx => h2 x (by simp [hx])), rfl⟩

/-- what a law's row asks behind a call that writes to nothing that was there -/
theorem law_post {f : Func} {s : ChangeSpec} {W W' : World} {args : Array Value} {ds gs : List (DataW H)} {before : List MemPlace} {tb : TypeId} (hl : laidOutB P = true) (hv : s.vars = []) (hr : f.resultTypes = #[tb]) (ht : P.underlying tb = some .bool)
    (hrec : ∀ t ∈ f.params.toList, P.readableRec t = true ∧ t < P.types.size)
    (hW : DataW.Whole enc P f.params.toList s.vars false W args.toList ds gs before) (hs : s.fn H (ds ++ gs) = { results := [.lit (.bool true)], args := ds }) (hb : Go.RowKit.Below W.heap.size W W') :
    s.post enc P f false true false false W args (.bool true) W' := by
  have hW0 := hW
  have hlt : ∀ p ∈ before, p.block < W.heap.size := fun p hp => hW.lt p hp
  obtain ⟨p, q, hA, hV, rfl, hfz, hnd⟩ := hW
  have hV0 := hV
  rw [hv] at hV
  obtain ⟨hg, hq⟩ : gs = [] ∧ q = [] := by
    cases gs <;> simp only [DataW.TrodVars] at hV
    exact ⟨rfl, hV⟩
  subst hg; subst hq
  have hargs : ∀ sp : Nat → Bool, (∀ x ∈ p ++ [], sp x.block = true) → DataW.TrodAll enc P W' 0 sp true f.params.toList args.toList (s.fn H (ds ++ [])).args p := fun sp h => by
    rw [hs]
    exact trodAll_stays hl hb hrec hA (fun x hx => hlt x (by simp [hx])) (fun x hx => h x (by simp [hx]))
  have hvars : ∀ sp : Nat → Bool, DataW.TrodVars enc P W' sp s.vars (s.fn H (ds ++ [])).vars [] := fun sp => by rw [hs, hv]; simp only [DataW.TrodVars]
  have hres : ∀ (b : Nat) (sp : Nat → Bool) (hd : Bool), DataW.TrodAll enc P W' b sp hd f.resultTypes.toList ((Value.bool true).resultList f.resultTypes.size) (s.fn H (ds ++ [])).results [] := fun b sp hd => by
    rw [hs, hr]
    exact trodAll_mk1 (shut_bool ht true)
  have hold : ∀ x ∈ p ++ [], (fun b => decide (b < W.heap.size)) x.block = true := fun x hx => by simpa using hlt x hx
  exact ⟨ds, [], p ++ [], [], p, [], hW0, hres _ _ _, hargs _ hold, hvars _, World.keptBut_mono (fun x hx => ⟨hx, .inr (.inl (by simpa using hx))⟩) (hb.frame (· ∈ p ++ [])), fun h => by cases h⟩

/-- a law's contract, at the arguments' own standing -/
theorem Con.law {f : FuncId} {avs : List AV} {W : World} {args : Array Value} (hc : Con P f avs [] fun r _ => r = .sc (.bool true)) (hv : PW (VRel (oldG W) W) avs args.toList) {Q : Ending → World → Prop}
    (hQ : ∀ W', Go.RowKit.Below W.heap.size W W' → Q (.returned (.bool true)) W') : Calls P f args W Q := by
  refine (hc.2 (oldG W) W args (oldG_good W) (oldG_tag W) (fun b i h => absurd h (oldG_box W b i)) ⟨fun i vs hv => by simp [noGh] at hv, fun i cs h => by simp at h⟩ hv).mono ?_
  rintro e w' ⟨v, r, bx', G', rfl, rfl, hr, _, _, _, e1, e2, e3, e4, _, e6⟩
  obtain rfl := hr.sc_inv
  exact hQ w' ⟨e1, e2, e3, e4, fun k hk => e6 k hk fun i h => oldG_box W k i h⟩
end
end Go.AM
