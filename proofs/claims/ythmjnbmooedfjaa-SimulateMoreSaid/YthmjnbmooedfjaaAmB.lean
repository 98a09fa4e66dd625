/-
  The abstract machine: what follows of a value's standing; the operations that only compute or read.
-/
import Derived.Test.YthmjnbmooedfjaaAmA
namespace Go.AM
open Go.RowKit

section inv
variable {G : Nat → Status} {w : World}

theorem VRel.sc_inv {u v : Value} (h : VRel G w (.sc u) v) : v = u := by
  cases h with
  | froz h => cases h; rfl

theorem VRel.ub_inv {v : Value} (h : VRel G w .ub v) : ∃ b, v = .bool b := by
  cases h with
  | froz h => cases h; exact ⟨_, rfl⟩

theorem VRel.nil_inv {v : Value} (h : VRel G w .nil v) : v = .slice none 0 0 := by
  cases h with
  | froz h => cases h; rfl

/-- a slice, seen -/
def Seen (G : Nat → Status) (w : World) (es : Nat) (xs : List AV) (ao : Option Addr) : Prop :=
  ∃ b off vals, ao = some ⟨b, off, none⟩ ∧ G b ≠ .junk ∧ (∀ x ∈ xs, x.cells.length = es) ∧ One vals ∧ (∀ j u, vals[j]? = some u → w.cell? ⟨b, off + j, none⟩ = some u) ∧ PW (FRel (Stable G) w) (flat xs) vals

theorem VRel.sl_inv {t es : Nat} {xs : List AV} {v : Value} (h : VRel G w (.sl t es xs) v) :
    ∃ ao c, v = .slice ao xs.length c ∧ (t = 1 → c = xs.length) ∧ (ao = none → c = 0 ∧ xs = []) ∧ xs.length ≤ c ∧ (xs = [] ∨ Seen G w es xs ao) := by
  cases h with
  | froz h =>
    cases h with
    | slNil _ _ a c h1 h2 h3 => exact ⟨a, c, rfl, h2, fun h => ⟨h3 h, rfl⟩, Nat.zero_le _, .inl rfl⟩
    | sl _ _ _ b off c vals h1 h2 h3 hc h4 h5 h0 h6 h7 => exact ⟨_, c, rfl, h3, (fun h => by cases h), hc, .inr ⟨b, off, vals, rfl, by unfold Stable at h2; rw [h2]; simp, h4, h0, h6, h5, h7⟩⟩
  | own _ _ _ v e vals h1 h2 h3 h4 h0 h5 =>
    rcases h2.2 with ⟨hv, hn⟩ | ⟨g, cap, cur, hv, hg, hh, hn, hc, hs, ht⟩
    · subst hv; rw [hn]; exact ⟨none, 0, rfl, fun h => by omega, fun _ => ⟨rfl, List.eq_nil_of_length_eq_zero hn⟩, by omega, .inl (List.eq_nil_of_length_eq_zero hn)⟩
    · subst hv
      refine ⟨_, cap, rfl, fun h => by omega, (fun h => by cases h), hn, .inr ⟨g, 0, vals, rfl, by rw [h3 g rfl]; simp, h4, h0, fun j u hj => ?_, h5⟩⟩
      have hj' : j < vals.length := (List.getElem?_eq_some_iff.1 hj).1
      have : cur.toList[j]? = some u := by
        rw [← ht, List.getElem?_take] at hj
        split at hj
        · exact hj
        · cases hj
      simp only [World.cell?, hh, Nat.zero_add]
      simpa using this

theorem flat_cell {es : Nat} : ∀ {xs : List AV} (i o : Nat) {x y : AV}, (∀ x ∈ xs, x.cells.length = es) → xs[i]? = some x → x.cells[o]? = some y → (flat xs)[i * es + o]? = some y
  | [], i, o, x, y, _, h, _ => by simp at h
  | a :: xs, i, o, x, y, hw, h, ho => by
    have ha : a.cells.length = es := hw a (by simp)
    cases i with
    | zero =>
      simp at h; subst h
      have : o < a.cells.length := (List.getElem?_eq_some_iff.1 ho).1
      simp only [flat, List.flatMap_cons, Nat.zero_mul, Nat.zero_add]
      rw [List.getElem?_append_left this]; exact ho
    | succ i =>
      have := flat_cell (xs := xs) i o (fun x hx => hw x (by simp [hx])) (by simpa using h) ho
      simp only [flat, List.flatMap_cons] at this ⊢
      rw [List.getElem?_append_right (by rw [ha, Nat.succ_mul]; omega), ha, show (i + 1) * es + o - es = i * es + o by rw [Nat.succ_mul]; omega]
      exact this

theorem flat_length {es : Nat} : ∀ {xs : List AV}, (∀ x ∈ xs, x.cells.length = es) → (flat xs).length = xs.length * es
  | [], _ => by simp [flat]
  | a :: xs, hw => by
    have := flat_length (xs := xs) (fun x hx => hw x (by simp [hx]))
    simp only [flat, List.flatMap_cons, List.length_append, List.length_cons] at this ⊢
    rw [this, hw a (by simp), Nat.succ_mul]; omega

/-- one cell of an element -/
theorem Seen.cell {es : Nat} {xs : List AV} {ao : Option Addr} (h : Seen G w es xs ao) {i o : Nat} {x y : AV} (hx : xs[i]? = some x) (hy : x.cells[o]? = some y) :
    ∃ b off u, ao = some ⟨b, off, none⟩ ∧ w.cell? ⟨b, off + i * es + o, none⟩ = some u ∧ FRel (Stable G) w y u := by
  obtain ⟨b, off, vals, h1, h2, h3, h0, h4, h5⟩ := h
  have hf := flat_cell i o h3 hx hy
  have hlt : i * es + o < vals.length := by rw [← h5.1]; exact (List.getElem?_eq_some_iff.1 hf).1
  exact ⟨b, off, vals[i * es + o], h1, by rw [Nat.add_assoc]; exact h4 _ _ (List.getElem?_eq_getElem hlt), h5.2 _ _ _ hf (List.getElem?_eq_getElem hlt)⟩

theorem VRel.pe_inv {t es i o : Nat} {xs : List AV} {v : Value} (h : VRel G w (.pe t es xs i o) v) :
    ∃ b off c, VRel G w (.sl t es xs) (.slice (some ⟨b, off, none⟩) xs.length c) ∧ i < xs.length ∧ v = .pointer (some ⟨b, off + i * es + o, none⟩) := by
  cases h with
  | froz h =>
    cases h with
    | pe _ _ _ _ _ b off c h1 h2 => exact ⟨b, off, c, .froz h1, h2, rfl⟩
  | pe _ _ _ _ _ b off c h1 h2 => exact ⟨b, off, c, h1, h2, rfl⟩

theorem VRel.tl_inv {t es i : Nat} {xs : List AV} {v : Value} (h : VRel G w (.tl t es xs i) v) :
    ∃ b off off' c, VRel G w (.sl t es xs) (.slice (some ⟨b, off, none⟩) xs.length c) ∧ i ≤ xs.length ∧ (off' = off + i * es ∨ c ≤ i) ∧ xs.length ≤ c ∧ v = .slice (some ⟨b, off', none⟩) (xs.length - i) (c - i) := by
  cases h with
  | froz h => cases h
  | tl _ _ _ _ b off off' c h1 h2 h3 =>
    obtain ⟨_, c', hv, _, _, hc, _⟩ := h1.sl_inv
    cases hv
    exact ⟨b, off, off', c, h1, h2, h3, hc, rfl⟩
theorem VRel.pb_inv {i o : Nat} {v : Value} (h : VRel G w (.pb i o) v) : ∃ b, G b = .box i ∧ v = .pointer (some ⟨b, o, none⟩) := by
  cases h with
  | froz h => cases h
  | pb _ _ b h => exact ⟨b, h, rfl⟩

theorem LRel.val {r : Nat} {x : AV} {v : Value} (h : LRel G w r x v) : VRel G w x v := by
  cases h with
  | froz h => exact .froz h
  | own t es xs v e vals h1 hr h2 h3 h4 h0 h5 => exact .own t es xs v e vals h1 h2 h3 h4 h0 h5

theorem rowLike_cells {x : AV} (h : x.rowLike = true) : x.cells = [x] := by
  cases x <;> first | rfl | (simp [AV.rowLike] at h)
theorem rowLike_flat {xs : List AV} (h : ∀ x ∈ xs, x.rowLike = true) : flat xs = xs := by
  induction xs with
  | nil => rfl
  | cons x xs ih =>
    have := ih fun y hy => h y (by simp [hy])
    simp only [flat, List.flatMap_cons, rowLike_cells (h x (by simp))] at this ⊢
    rw [this]; rfl

/-- a table, seen -/
theorem VRel.so_inv {t : Nat} {xs : List AV} {v : Value} (h : VRel G w (.so t xs) v) :
    ∃ ao c, v = .slice ao xs.length c ∧ (ao = none → c = 0 ∧ xs = []) ∧ xs.length ≤ c ∧ (xs = [] ∨ ∃ b vals, ao = some ⟨b, 0, none⟩ ∧ (∀ j u, vals[j]? = some u → w.cell? ⟨b, j, none⟩ = some u) ∧ One vals ∧ PW (LRel G w (root t)) xs vals) := by
  cases h with
  | froz h => cases h
  | so _ _ _ e vals h1 h2 h3 h4 h0 h5 =>
    rcases h2.2 with ⟨hv, hn⟩ | ⟨g, cap, cur, hv, hg, hh, hn, hc, hs, ht⟩
    · subst hv; rw [hn]; exact ⟨none, 0, rfl, fun _ => ⟨rfl, List.eq_nil_of_length_eq_zero hn⟩, by omega, .inl (List.eq_nil_of_length_eq_zero hn)⟩
    · subst hv
      refine ⟨_, cap, rfl, (fun h => by cases h), hn, .inr ⟨g, vals, rfl, fun j u hj => ?_, h0, h5⟩⟩
      have : cur.toList[j]? = some u := by
        rw [← ht, List.getElem?_take] at hj
        split at hj
        · exact hj
        · cases hj
      simp only [World.cell?, hh]
      simpa using this

theorem VRel.po_inv {t i : Nat} {xs : List AV} {v : Value} (h : VRel G w (.po t xs i) v) :
    ∃ b off c, VRel G w (.so t xs) (.slice (some ⟨b, off, none⟩) xs.length c) ∧ i < xs.length ∧ v = .pointer (some ⟨b, off + i, none⟩) := by
  cases h with
  | froz h => cases h
  | po _ _ _ b off c h1 h2 => exact ⟨b, off, c, h1, h2, rfl⟩

/-- what is a row, by what it stands for -/
theorem VRel.toL {r : Nat} {x : AV} {v : Value} (h : VRel G w x v) (hx : x.rowLike = true) (hr : ∀ t es xs, x = .sl t es xs → 2 ≤ t → root t = r) : LRel G w r x v := by
  cases h with
  | froz h => exact .froz h
  | own t es xs v e vals h1 h2 h3 h4 h0 h5 => exact .own t es xs v e vals h1 (hr _ _ _ rfl h1) h2 h3 h4 h0 h5
  | _ => simp [AV.rowLike] at hx

theorem LRel.rootOf {r t es : Nat} {xs : List AV} {v : Value} (h : LRel G w r (.sl t es xs) v) (ht : 2 ≤ t) : root t = r := by
  cases h with
  | froz h => exfalso; cases h <;> omega
  | own _ _ _ _ _ _ _ hr => exact hr
theorem LRel.other {r : Nat} {x : AV} {v : Value} (h : LRel G w r x v) (hx : ∀ t es xs, x ≠ .sl t es xs) : FRel (Stable G) w x v := by
  cases h with
  | froz h => exact h
  | own => exact absurd rfl (hx _ _ _)
theorem VRel.so_two {t : Nat} {xs : List AV} {v : Value} (h : VRel G w (.so t xs) v) : 2 ≤ t := by
  cases h with
  | froz h => cases h
  | so _ _ _ _ _ h1 => exact h1

theorem VRel.ag_inv {cs : List AV} {v : Value} (h : VRel G w (.ag cs) v) : ∃ vs : Array Value, v = .agg vs ∧ One vs.toList ∧ PW (VRel G w) cs vs.toList := by
  cases h with
  | froz h =>
    cases h with
    | ag _ vs h1 h0 h2 => exact ⟨vs, rfl, h0, h1, fun j x u hx hu => .froz (h2 j x u hx hu)⟩
  | ag _ vs h1 h0 h2 => exact ⟨vs, rfl, h0, h1, h2⟩

theorem VRel.tup_inv {cs : List AV} {v : Value} (h : VRel G w (.tup cs) v) : ∃ vs : Array Value, v = .tuple vs ∧ PW (VRel G w) cs vs.toList := by
  cases h with
  | froz h =>
    cases h with
    | tup _ vs h1 h2 => exact ⟨vs, rfl, h1, fun j x u hx hu => .froz (h2 j x u hx hu)⟩
  | tup _ vs h1 h2 => exact ⟨vs, rfl, h1, h2⟩

theorem VRel.fn_inv {f : FuncId} {caps : List AV} {v : Value} (h : VRel G w (.fn f caps) v) : ∃ vs : Array Value, v = .func (.func f) #[] vs ∧ PW (FRel (Stable G) w) caps vs.toList := by
  cases h with
  | froz h =>
    cases h with
    | fn _ _ vs h1 h2 => exact ⟨vs, rfl, h1, h2⟩

theorem VRel.fp_inv {cs : List AV} {o : Nat} {v : Value} (h : VRel G w (.fp cs o) v) : ∃ b vals, Stable G b ∧ v = .pointer (some ⟨b, o, none⟩) ∧ One vals ∧ (∀ j u, vals[j]? = some u → w.cell? ⟨b, j, none⟩ = some u) ∧ PW (FRel (Stable G) w) cs vals := by
  cases h with
  | froz h =>
    cases h with
    | fp _ _ b vals h1 h2 h0 h3 h4 => exact ⟨b, vals, h1, rfl, h0, h3, h2, h4⟩

end inv

/-! ### boxes -/
/-- a variable, or a ghost: values that are only looked at -/
abbrev Gh := Nat → Option (List Value)
def noGh : Gh := fun _ => none
def BCell (gh : Gh) (G : Nat → Status) (w : World) (i : Nat) (cs : List AV) : Prop :=
  (gh i = none ∧ ∃ b vals ty, G b = .box i ∧ w.heap[b]? = some (.cells vals ty (0, 0)) ∧ One vals.toList ∧ PW (VRel G w) cs vals.toList) ∨ ((∀ b, G b ≠ .box i) ∧ ∃ vs, gh i = some vs ∧ PW (VRel G w) cs vs)
structure BRel (gh : Gh) (G : Nat → Status) (w : World) (bx : List (List AV)) : Prop where
  low : ∀ i vs, gh i = some vs → i < bx.length
  cell : ∀ (i : Nat) cs, bx[i]? = some cs → BCell gh G w i cs

theorem BRel.real {gh : Gh} {G : Nat → Status} {w : World} {bx : List (List AV)} (h : BRel gh G w bx) {i : Nat} {cs : List AV} (hi : bx[i]? = some cs) {b : Nat} (hb : G b = .box i) :
    ∃ b vals ty, G b = .box i ∧ w.heap[b]? = some (.cells vals ty (0, 0)) ∧ One vals.toList ∧ PW (VRel G w) cs vals.toList := by
  rcases h.cell i cs hi with h | h
  · exact h.2
  · exact absurd hb (h.1 b)
/-- from what holds of one world to another: variables by their block, ghosts by their values -/
theorem BCell.turn {gh : Gh} {G G' : Nat → Status} {w w' : World} {i : Nat} {cs cs' : List AV} (h : BCell gh G w i cs) (hl : cs.length = cs'.length) (hx : ∀ (j : Nat) x y v, cs[j]? = some x → cs'[j]? = some y → VRel G w x v → VRel G' w' y v)
    (hb : ∀ b, G b = .box i → G' b = .box i ∧ w'.heap[b]? = w.heap[b]?) (hn : (∀ b, G b ≠ .box i) → ∀ b, G' b ≠ .box i) : BCell gh G' w' i cs' := by
  have hp : ∀ {vs : List Value}, PW (VRel G w) cs vs → PW (VRel G' w') cs' vs := fun hp => ⟨by rw [← hl]; exact hp.1, fun j y v hy hv => by
    have hj : j < cs.length := by rw [hl]; exact (List.getElem?_eq_some_iff.1 hy).1
    exact hx j _ y v (List.getElem?_eq_getElem hj) hy (hp.2 j _ v (List.getElem?_eq_getElem hj) hv)⟩
  rcases h with ⟨h0, b, vals, ty, h1, h2, h3, h4⟩ | ⟨h1, vs, h2, h3⟩
  · exact .inl ⟨h0, b, vals, ty, (hb b h1).1, by rw [(hb b h1).2]; exact h2, h3, hp h4⟩
  · exact .inr ⟨hn h1, vs, h2, hp h3⟩
theorem BCell.same {gh : Gh} {G G' : Nat → Status} {w w' : World} {i : Nat} {cs : List AV} (h : BCell gh G w i cs) (hx : ∀ x v, VRel G w x v → VRel G' w' x v)
    (hb : ∀ b, G b = .box i → G' b = .box i ∧ w'.heap[b]? = w.heap[b]?) (hn : (∀ b, G b ≠ .box i) → ∀ b, G' b ≠ .box i) : BCell gh G' w' i cs :=
  h.turn rfl (fun j x y v h1 h2 hr => by rw [h1] at h2; cases h2; exact hx x v hr) hb hn
/-- each of a box's values turned by one function -/
theorem BCell.map {gh : Gh} {G G' : Nat → Status} {w w' : World} {i : Nat} {cs : List AV} {f : AV → AV} (h : BCell gh G w i cs) (hx : ∀ x v, VRel G w x v → VRel G' w' (f x) v)
    (hb : ∀ b, G b = .box i → G' b = .box i ∧ w'.heap[b]? = w.heap[b]?) (hn : (∀ b, G b ≠ .box i) → ∀ b, G' b ≠ .box i) : BCell gh G' w' i (cs.map f) :=
  h.turn (by simp) (fun j x y v h1 h2 hr => by rw [List.getElem?_map, h1] at h2; simp at h2; subst h2; exact hx x v hr) hb hn

theorem BRel.ext {gh : Gh} {G G' : Nat → Status} {w w' : World} {bx : List (List AV)} (h : BRel gh G w bx) (hg : Good G w) (he : Ext G w G' w') (hn : ∀ b i, G' b = .box i → i < bx.length → G b = .box i) : BRel gh G' w' bx := by
  refine ⟨h.low, fun i cs hi => ?_⟩
  have hil := (List.getElem?_eq_some_iff.1 hi).1
  refine (h.cell i cs hi).same (fun x v hr => hr.ext hg he) (fun b hb => ?_) fun h0 b hb => h0 b (hn b i hb hil)
  have hbs : b < w.heap.size := hg.lt b (by rw [hb]; simp)
  exact ⟨by rw [he.stat b hbs]; exact hb, he.keep b hbs⟩

/-! ### one operation, carried out -/
/-- new tags are the slot's own -/
structure NewTags (d : Nat) (G G' : Nat → Status) : Prop where
  tags : ∀ b t, G' b = .tag t → G b = .tag t ∨ root t / 64 = d + 1
  boxes : ∀ b i, G' b = .box i → G b = .box i

theorem NewTags.refl (d : Nat) (G : Nat → Status) : NewTags d G G := ⟨fun _ _ h => .inl h, fun _ _ h => h⟩

/-- it yields what 'r' stands for, and only adds to memory -/
def Does (P : Program) (d : Nat) (G : Nat → Status) (w : World) (s : Sem Value) (r : AV) : Prop :=
  ∃ v w' G', s.run P w = .ok v w' ∧ VRel G' w' r v ∧ Ext G w G' w' ∧ Good G' w' ∧ NewTags d G G'

theorem Does.pure {P : Program} {d : Nat} {G : Nat → Status} {w : World} {s : Sem Value} {r : AV} {v : Value} (hg : Good G w) (hr : s.run P w = .ok v w) (hv : VRel G w r v) : Does P d G w s r :=
  ⟨v, w, G, hr, hv, .refl G w, hg, .refl d G⟩

theorem Addr.add_none (b off n : Nat) : Addr.add ⟨b, off, none⟩ n = ⟨b, off + n, none⟩ := by
  unfold Addr.add; split
  · rename_i h; subst h; rfl
  · rfl

def tinfo (P : Program) (t : TypeId) : Option (Nat × Nat × Option Value) := (P.info? t).map fun i => (i.size, i.bytes, i.zero)

theorem run_sizeOf {P : Program} {t : TypeId} {sz by_ : Nat} {z : Option Value} (h : tinfo P t = some (sz, by_, z)) (w : World) : (sizeOf t).run P w = .ok sz w := by
  unfold tinfo at h
  cases hi : P.info? t with
  | none => simp [hi] at h
  | some i => simp [hi] at h; simp [sizeOf, typeInfo, hi, h.1]

theorem tinfo_some {P : Program} {t : TypeId} {sz by_ : Nat} {z : Option Value} (h : tinfo P t = some (sz, by_, z)) : ∃ i, P.info? t = some i ∧ i.size = sz ∧ i.bytes = by_ ∧ i.zero = z := by
  unfold tinfo at h
  cases hi : P.info? t with
  | none => simp [hi] at h
  | some i => simp [hi] at h; exact ⟨i, rfl, h.1, h.2.1, h.2.2⟩

/-! binary operations on plain values -/
def evBin (P : Program) (op : BinOp) (T : TypeId) (u v : Value) (K : Value → Prop) : Prop :=
  match op, u, v with
  | .shl, .int k a, .int _ b => 0 ≤ b ∧ K (.int k (k.wrap (a * 2 ^ (min b.toNat k.bits))))
  | .shr, .int k a, .int _ b => 0 ≤ b ∧ K (.int k (a.fdiv (2 ^ (min b.toNat k.bits))))
  | .add, .int k a, .int k' b => k = k' ∧ K (.int k (k.wrap (a + b)))
  | .sub, .int k a, .int k' b => k = k' ∧ K (.int k (k.wrap (a - b)))
  | .mul, .int k a, .int k' b => k = k' ∧ K (.int k (k.wrap (a * b)))
  | .quo, .int k a, .int k' b => k = k' ∧ b ≠ 0 ∧ K (.int k (k.wrap (a.tdiv b)))
  | .rem, .int k a, .int k' b => k = k' ∧ b ≠ 0 ∧ K (.int k (a.tmod b))
  | .and, .int k a, .int k' b => k = k' ∧ K (.int k (k.wrap (BitVec.ofInt k.bits a &&& BitVec.ofInt k.bits b).toNat))
  | .or, .int k a, .int k' b => k = k' ∧ K (.int k (k.wrap (BitVec.ofInt k.bits a ||| BitVec.ofInt k.bits b).toNat))
  | .xor, .int k a, .int k' b => k = k' ∧ K (.int k (k.wrap (BitVec.ofInt k.bits a ^^^ BitVec.ofInt k.bits b).toNat))
  | .eql, .int k a, .int k' b => k = k' ∧ K (.bool (a == b))
  | .neq, .int k a, .int k' b => k = k' ∧ K (.bool (a != b))
  | .lss, .int k a, .int k' b => k = k' ∧ K (.bool (decide (a < b)))
  | .leq, .int k a, .int k' b => k = k' ∧ K (.bool (decide (a ≤ b)))
  | .gtr, .int k a, .int k' b => k = k' ∧ K (.bool (decide (b < a)))
  | .geq, .int k a, .int k' b => k = k' ∧ K (.bool (decide (b ≤ a)))
  | .eql, .bool a, .bool b => P.underlying T = some .bool ∧ K (.bool (a == b))
  | .neq, .bool a, .bool b => P.underlying T = some .bool ∧ K (.bool (!(a == b)))
  | .add, .string a, .string b => a.size + b.size ≤ 9223372036854775807 ∧ K (.string (a ++ b))
  | .eql, .string a, .string b => K (.bool (a.toList == b.toList))
  | .neq, .string a, .string b => K (.bool (!(a.toList == b.toList)))
  | .lss, .string a, .string b => K (.bool (Op.bytesLess a.toList b.toList))
  | .leq, .string a, .string b => K (.bool (Op.bytesLess a.toList b.toList || a.toList == b.toList))
  | .gtr, .string a, .string b => K (.bool (!(Op.bytesLess a.toList b.toList || a.toList == b.toList)))
  | .geq, .string a, .string b => K (.bool (!(Op.bytesLess a.toList b.toList)))
  | _, _, _ => False

theorem run_equal_bool {P : Program} {T : TypeId} {a b : Bool} (h : P.underlying T = some .bool) (w : World) : (Op.equal T (.bool a) (.bool b)).run P w = .ok (a == b) w := by
  simp only [Op.equal, Op.maxDepth]
  show (Op.equalIn (9999 + 1) T (.bool a) (.bool b)).run P w = _
  rw [Op.equalIn]
  simp [run_underlying h]

theorem evBin_sound {P : Program} {op : BinOp} {T : TypeId} {u v : Value} {K : Value → Prop} (x y : Operand) (h : evBin P op T u v K) :
    ∃ r, K r ∧ ∀ w, (do eqGuard op T x y u v; binOp op T u v : Sem Value).run P w = .ok r w := by
  unfold evBin at h
  split at h
  case h_17 => obtain ⟨h1, h2⟩ := h; exact ⟨_, h2, fun w => by simp [eqGuard, binOp, run_equal_bool h1]⟩
  case h_18 => obtain ⟨h1, h2⟩ := h; exact ⟨_, h2, fun w => by simp [eqGuard, binOp, run_equal_bool h1]⟩
  case h_19 => obtain ⟨h1, h2⟩ := h; refine ⟨_, h2, fun w => ?_⟩; simp [eqGuard, binOp, Op.stringOp, IntKind.max, IntKind.signed, IntKind.bits]; omega
  all_goals first
    | exact h.elim
    | (obtain ⟨h1, h2, h3⟩ := h; refine ⟨_, h3, fun w => ?_⟩; subst h1
       simp [eqGuard, binOp, Op.intDiv, h2]
       done)
    | (obtain ⟨h1, h2⟩ := h; refine ⟨_, h2, fun w => ?_⟩; subst h1
       simp [eqGuard, binOp, Op.intArith, Op.intCmp, Op.intBits]
       done)
    | (obtain ⟨h1, h2⟩ := h; refine ⟨_, h2, fun w => ?_⟩
       simp [eqGuard, binOp, Op.shift, Int.not_lt.2 h1]
       done)
    | (refine ⟨_, h, fun w => ?_⟩
       simp [eqGuard, binOp, Op.stringOp]
       done)

end Go.AM
