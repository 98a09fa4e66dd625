/-
  The abstract machine: configurations (values with values below them); elements of which less is known; loops that several branches come to.
  Plain laws: invariants of counter models: closed atoms hold wherever rules lead.
  Counter models: their data, as abstract values.
  From the contract of a law of one list of bytes to its row.
  The types of this program.
  Plain laws: candidates of chapter 32: lists of coefficients, each once.
  Walks: the dice.
  Walks: small functions of models and invariants.
  Walks: atoms.
  Walks: configurations of counter models.
  Walks: names.
  Walks: searches in lists.
  Walks: keywords; lists of names.
  Walks: a model's names.
-/
import Derived.Test.YtlldkikmjeeamaaGreatg6
import Derived.Test.YtlldkikmjeeamaaGreatRows
import Derived.Test.YtlldkikmjeeamaaGreatg5
import Derived.Test.YtlldkikmjeeamaaGreatProg
/-! ## Am4 -/
namespace Go.AM
open Go Go.Proofs Go.RowKit

/-- a configuration -/
inductive CV where
  | mk (n : Int) (kids : List CV)
  deriving Inhabited
def CV.n : CV → Int
  | .mk n _ => n
def CV.kids : CV → List CV
  | .mk _ k => k

mutual
def vV : CV → AV
  | .mk n kids => .ag [vi n, .sl 0 2 (vVs kids)]
def vVs : List CV → List AV
  | [] => []
  | x :: l => vV x :: vVs l
end
theorem vVs_map : ∀ l : List CV, vVs l = l.map vV
  | [] => rfl
  | x :: l => by rw [vVs, vVs_map l]; rfl
theorem vV_eq (a : CV) : vV a = .ag [vi a.n, .sl 0 2 (a.kids.map vV)] := by cases a; rw [vV, vVs_map]; rfl

def ordI (a b : Int) : Int := if a < b then -1 else if b < a then 1 else 0
mutual
def cmpV : CV → CV → Int
  | .mk n k, .mk m l => if n ≠ m then ordI n m else if k.length ≠ l.length then ordI k.length l.length else cmpVs k l
def cmpVs : List CV → List CV → Int
  | [], [] => 0
  | [], _ :: _ => -1
  | _ :: _, [] => 1
  | x :: k, y :: l => if cmpV x y ≠ 0 then cmpV x y else cmpVs k l
end
theorem ordI_zero {a b : Int} : ordI a b = 0 ↔ a = b := by unfold ordI; split <;> (try split) <;> omega
mutual
theorem cmpV_zero : ∀ (a b : CV), cmpV a b = 0 ↔ a = b
  | .mk n k, .mk m l => by
    rw [cmpV]
    by_cases h : n = m
    · rw [if_neg (fun h' => h' h)]
      by_cases h2 : k.length = l.length
      · rw [if_neg (fun h' => h' h2), cmpVs_zero k l, h]; simp
      · rw [if_pos h2, ordI_zero]
        exact ⟨fun e => absurd (by omega) h2, fun e => absurd (by injection e with _ e; rw [e]) h2⟩
    · rw [if_pos h, ordI_zero]
      exact ⟨fun e => absurd e h, fun e => absurd (by injection e) h⟩
theorem cmpVs_zero : ∀ (k l : List CV), cmpVs k l = 0 ↔ k = l
  | [], [] => by simp [cmpVs]
  | [], _ :: _ => by simp [cmpVs]
  | _ :: _, [] => by simp [cmpVs]
  | x :: k, y :: l => by
    rw [cmpVs]
    by_cases h : cmpV x y = 0
    · rw [if_neg (fun h' => h' h), cmpVs_zero k l, (cmpV_zero x y).1 h]; simp
    · rw [if_pos h]
      exact ⟨fun e => absurd e h, fun e => absurd ((cmpV_zero x y).2 (by injection e)) h⟩
end
/-- the lists below are not too long -/
inductive CV.Ok : CV → Prop
  | mk (n : Int) (k : List CV) : k.length ≤ 9223372036854775807 → (∀ x ∈ k, CV.Ok x) → CV.Ok (.mk n k)
theorem CV.Ok.len {a : CV} (h : a.Ok) : a.kids.length ≤ 9223372036854775807 := by cases h; assumption
theorem CV.Ok.kid {a : CV} (h : a.Ok) {x : CV} (hx : x ∈ a.kids) : x.Ok := by cases h with | mk n k _ h2 => exact h2 x hx
theorem kid_size {a x : CV} (h : x ∈ a.kids) : SizeOf.sizeOf x < SizeOf.sizeOf a := by
  cases a with
  | mk n k => have := List.sizeOf_lt_of_mem h; simp only [CV.kids] at *; rw [CV.mk.sizeOf_spec]; omega
theorem getvV {l : List CV} {i : Nat} (h : i < l.length) : (l.map vV)[i]? = some (.ag [.sc (.int .i64 l[i]!.n), .sl 0 2 (l[i]!.kids.map vV)]) := by
  rw [List.getElem?_map, List.getElem?_eq_getElem h, getElem!_pos l i h, Option.map_some, vV_eq]; rfl

/-- the first that is not zero -/
def orF (l : List Int) : Int := (l.find? (· != 0)).getD 0
theorem or_cmp (a b : CV) : orF [ordI a.n b.n, ordI a.kids.length b.kids.length, cmpVs a.kids b.kids] = cmpV a b := by
  obtain ⟨n, k⟩ := a
  obtain ⟨m, l⟩ := b
  rw [cmpV]
  simp only [CV.n, CV.kids]
  unfold orF
  by_cases h : n = m
  · rw [if_neg (fun h' => h' h), List.find?_cons_of_neg (by simp [ordI_zero, h])]
    by_cases h2 : k.length = l.length
    · rw [if_neg (fun h' => h' h2), List.find?_cons_of_neg (by simp [ordI_zero, h2])]
      by_cases h3 : cmpVs k l = 0
      · rw [List.find?_cons_of_neg (by simp [h3]), h3]; rfl
      · rw [List.find?_cons_of_pos (by simp [h3])]; rfl
    · rw [if_pos h2, List.find?_cons_of_pos (by simp [ordI_zero]; omega)]; rfl
  · rw [if_pos h, List.find?_cons_of_pos (by simp [ordI_zero, h])]; rfl

/-- whether two configurations are equal -/
def sameV (a b : CV) : Bool := cmpV a b == 0
theorem sameV_iff {a b : CV} : sameV a b = true ↔ a = b := by unfold sameV; rw [beq_iff_eq, cmpV_zero]

theorem Sub.slE {t es : Nat} {xs ys : List AV} (hl : xs.length = ys.length) (hy : ∀ y ∈ ys, y.cells.length = es) (h : PW Sub (flat xs) (flat ys)) : Sub (.sl t es xs) (.sl t es ys) := fun S w v hv => by
  cases hv with
  | slNil _ _ a c h1 h2 h3 =>
    have : ys = [] := List.eq_nil_of_length_eq_zero (by simpa using hl.symm)
    subst this; exact .slNil t es a c h1 h2 h3
  | sl _ _ _ b off c vals h1 h2 h3 hc h4 h5 h0 h6 h7 =>
    rw [hl]
    refine .sl t es ys b off c vals h1 h2 (fun e => by rw [h3 e, hl]) (by omega) hy (by rw [← h.1]; exact h5) h0 h6 fun j y u hj hu => ?_
    have hjl : j < (flat xs).length := by rw [h.1]; exact (List.getElem?_eq_some_iff.1 hj).1
    exact h.2 j _ y (List.getElem?_eq_getElem hjl) hj S w u (h7 j _ u (List.getElem?_eq_getElem hjl) hu)
theorem leV_slE {t es : Nat} {xs ys : List AV} (hl : xs.length = ys.length) (hy : ∀ y ∈ ys, y.cells.length = es) (h : PW Sub (flat xs) (flat ys)) : leV (.sl t es xs) (.sl t es ys) := leV_sem fun G w v hv => by
  cases hv with
  | froz h' => exact .froz (Sub.slE hl hy h _ _ _ h')
  | own _ _ _ _ e vals h1 h2 h3 h4 h0 h5 =>
    refine .own t es ys v e vals h1 (by rw [← hl]; exact h2) h3 hy h0 ⟨by rw [← h.1]; exact h5.1, fun j y u hj hu => ?_⟩
    have hjl : j < (flat xs).length := by rw [h.1]; exact (List.getElem?_eq_some_iff.1 hj).1
    exact h.2 j _ y (List.getElem?_eq_getElem hjl) hj _ _ u (h5.2 j _ u (List.getElem?_eq_getElem hjl) hu)

theorem share3 {body : (Exit → St → Prop) → St → Prop} {Q : Exit → St → Prop} {T : St → Prop} {A : Prop} (h : (∀ τ, T τ → LoopK body Q τ) → A) (key : ∀ τ, T τ → LoopK body Q τ) : A := h key
end Go.AM

/-! ## LInv -/
namespace Go.AM

/-- a rule of a counter model -/
structure RD where
  name : ByteArray
  src : Int
  dst : Int
  need : List Int
  give : List Int
  move : List Int
  channel : Int := 0
  act : Int := 0
  letter : Int := 0
  path : List Int := []
  next : List Int := []
  takes : List (Int × Int × Int) := []
  makes : List Int := []
  second : Int := 0
  deriving Inhabited
/-- an atom: coefficients, modulus, values -/
structure AtomD where
  coefs : List Int
  mod : Int
  values : List Int
  deriving Inhabited

def omegaI : Int := 1099511627776
def restF (n m : Int) : Int := Int.tmod (Int.tmod n m + m) m
theorem neg_emod_emod' (k m : Int) : (-(k % m)) % m = (-k) % m := by
  have h := Int.emod_add_mul_ediv k m
  have e : -k = -(k % m) + m * (-(k / m)) := by rw [Int.mul_neg]; omega
  rw [e, Int.add_mul_emod_self_left]
theorem restF_emod {n m : Int} (h : 0 < m) : restF n m = n % m := by
  unfold restF
  rw [Int.tmod_eq_emod_of_nonneg (by have := Int.lt_tmod_of_pos n h; omega)]
  rcases Int.le_total 0 n with hn | hn
  · rw [Int.tmod_eq_emod_of_nonneg hn, Int.add_emod_right, Int.emod_emod]
  · obtain ⟨k, rfl⟩ : ∃ k, n = -k := ⟨-n, by omega⟩
    rw [Int.neg_tmod, Int.tmod_eq_emod_of_nonneg (by omega), Int.add_emod_right, neg_emod_emod']
def sumF : List Int → List Int → Int
  | c :: cs, v :: vs => c * v + sumF cs vs
  | _, _ => 0
def effectF (coefs : List Int) (r : RD) : Int := sumF coefs r.give - sumF coefs r.need
/-- the vector behind a rule -/
def fireL : List Int → List Int → List Int → List Int
  | v :: vs, n :: ns, g :: gs => (v - n + g) :: fireL vs ns gs
  | _, _, _ => []
def fireF (r : RD) (v : List Int) : List Int := fireL v r.need r.give
theorem fireL_len : ∀ {v n g : List Int}, n.length = v.length → g.length = v.length → (fireL v n g).length = v.length
  | [], [], [], _, _ => rfl
  | v :: vs, n :: ns, g :: gs, h1, h2 => by
    simp only [fireL, List.length_cons]
    rw [fireL_len (by simpa using h1) (by simpa using h2)]
  | [], _ :: _, _, h, _ => by simp at h
  | [], [], _ :: _, _, h => by simp at h
  | _ :: _, [], _, h, _ => by simp at h
  | _ :: _, _ :: _, [], _, h => by simp at h
theorem fireL_at : ∀ {v n g : List Int} {i : Nat}, n.length = v.length → g.length = v.length → i < v.length → (fireL v n g)[i]! = v[i]! - n[i]! + g[i]!
  | v :: vs, n :: ns, g :: gs, 0, _, _, _ => rfl
  | v :: vs, n :: ns, g :: gs, i + 1, h1, h2, h => by
    simp only [fireL, List.getElem!_cons_succ]
    exact fireL_at (by simpa using h1) (by simpa using h2) (by simpa using h)
  | [], _, _, _, _, _, h => by simp at h
  | _ :: _, [], _, _, h, _, _ => by simp at h
  | _ :: _, _ :: _, [], _, _, h, _ => by simp at h
theorem sum_fireL : ∀ {c v n g : List Int}, c.length = v.length → n.length = v.length → g.length = v.length → sumF c (fireL v n g) = sumF c v + (sumF c g - sumF c n)
  | [], [], [], [], _, _, _ => rfl
  | c :: cs, v :: vs, n :: ns, g :: gs, h0, h1, h2 => by
    simp only [fireL, sumF]
    rw [sum_fireL (by simpa using h0) (by simpa using h1) (by simpa using h2)]
    rw [Int.mul_add, Int.mul_sub]
    omega
  | [], _ :: _, _, _, h, _, _ => by simp at h
  | _ :: _, [], _, _, h, _, _ => by simp at h
  | [], [], _ :: _, _, _, h, _ => by simp at h
  | [], [], [], _ :: _, _, _, h => by simp at h
  | _ :: _, _ :: _, [], _, _, h, _ => by simp at h
  | _ :: _, _ :: _, _ :: _, [], _, _, h => by simp at h

/-- an amount is right for the value of an atom in a state -/
def followsF (a : AtomD) (amount : Int) (s : Nat) : Bool :=
  if a.values[s]! = omegaI then false else if a.mod = 0 then decide (a.values[s]! ≤ amount) else restF amount a.mod == a.values[s]!
/-- a rule leads on from what the atom says -/
def keepsF (a : AtomD) (r : RD) : Bool := a.values[r.src.toNat]! == omegaI || followsF a (a.values[r.src.toNat]! + effectF a.coefs r) r.dst.toNat
/-- rules of so many states and places -/
def RightR (ns np : Nat) (r : RD) : Prop := 0 ≤ r.src ∧ r.src < ns ∧ 0 ≤ r.dst ∧ r.dst < ns ∧ r.need.length = np ∧ r.give.length = np

/-- one step -/
theorem follows_step {a : AtomD} {ns np : Nat} {r : RD} {v : List Int} (hm : 0 ≤ a.mod) (hc : a.coefs.length = np) (hv : v.length = np) (hr : RightR ns np r) (hk : keepsF a r = true)
    (h : followsF a (sumF a.coefs v) r.src.toNat = true) : followsF a (sumF a.coefs (fireF r v)) r.dst.toNat = true := by
  have e : sumF a.coefs (fireF r v) = sumF a.coefs v + effectF a.coefs r := sum_fireL (by omega) (by rw [hr.2.2.2.2.1, hv]) (by rw [hr.2.2.2.2.2, hv])
  rw [e]
  generalize sumF a.coefs v = n at h
  unfold keepsF at hk
  unfold followsF at *
  generalize a.values[r.src.toNat]! = p at *
  generalize a.values[r.dst.toNat]! = q at *
  generalize effectF a.coefs r = d at *
  split at h
  · cases h
  · rename_i hp
    rw [beq_eq_false_iff_ne.2 hp, Bool.false_or] at hk
    split at hk
    · cases hk
    · rename_i hq
      rw [if_neg hq]
      by_cases h0 : a.mod = 0
      · rw [if_pos h0] at *
        simp only [decide_eq_true_eq] at *
        omega
      · rw [if_neg h0] at *
        have hpos : 0 < a.mod := by omega
        rw [restF_emod hpos, beq_iff_eq] at *
        rw [← hk, ← h]
        rw [Int.emod_add_emod]

/-! ### the strongest atom -/
/-- values of b are at most those of a, where a has values (modulo: the same) -/
def AboveV (mod : Int) (a b : List Int) (s : Nat) : Prop := a[s]! ≠ omegaI → b[s]! ≠ omegaI ∧ if mod = 0 then b[s]! ≤ a[s]! else b[s]! = a[s]!
/-- a rule leads from a's value on, b is closed -/
theorem above_step {a : List Int} {b : AtomD} {r : RD} {x y : Nat} {n : Int} (hm : 0 ≤ b.mod) (hx : r.src.toNat = x) (hy : r.dst.toNat = y) (h : AboveV b.mod a b.values x) (ha : a[x]! ≠ omegaI) (hk : keepsF b r = true)
    (hn : n = if 0 < b.mod then restF (a[x]! + effectF b.coefs r) b.mod else a[x]! + effectF b.coefs r) : b.values[y]! ≠ omegaI ∧ if b.mod = 0 then b.values[y]! ≤ n else b.values[y]! = n := by
  obtain ⟨h1, h2⟩ := h ha
  unfold keepsF at hk
  rw [hx, hy, beq_eq_false_iff_ne.2 h1, Bool.false_or] at hk
  unfold followsF at hk
  generalize b.values[x]! = p at *
  generalize b.values[y]! = q at *
  generalize effectF b.coefs r = d at *
  generalize a[x]! = u at *
  split at hk
  · cases hk
  · rename_i hq
    refine ⟨hq, ?_⟩
    by_cases h0 : b.mod = 0
    · rw [if_pos h0] at *
      rw [if_neg (by omega)] at hn
      simp only [decide_eq_true_eq] at hk
      omega
    · rw [if_neg h0] at *
      rw [if_pos (by omega)] at hn
      rw [beq_iff_eq] at hk
      rw [hn, ← h2, hk]
theorem follows_above {a b : AtomD} {s : Nat} {n : Int} (hb : b.mod = a.mod) (h : AboveV a.mod a.values b.values s) (hf : followsF a n s = true) : followsF b n s = true := by
  unfold followsF at *
  split at hf
  · cases hf
  · rename_i hp
    obtain ⟨h1, h2⟩ := h hp
    rw [if_neg h1, hb]
    by_cases h0 : a.mod = 0
    · rw [if_pos h0] at *
      simp only [decide_eq_true_eq] at *
      omega
    · rw [if_neg h0] at *
      rw [h2]; exact hf
/-- all of an inequality's values less by one number -/
theorem keeps_less {a b : AtomD} {by_ : Int} {r : RD} (hm : a.mod = 0) (hb : b.mod = 0) (hc : b.coefs = a.coefs) (_hby : 0 ≤ by_)
    (hv : ∀ s : Nat, b.values[s]! = if a.values[s]! = omegaI then omegaI else a.values[s]! - by_) (hn : ∀ s : Nat, b.values[s]! = omegaI → a.values[s]! = omegaI) (h : keepsF a r = true) : keepsF b r = true := by
  unfold keepsF at *
  rw [Bool.or_eq_true] at *
  by_cases hp : a.values[r.src.toNat]! = omegaI
  · exact .inl (by rw [hv, if_pos hp]; simp)
  · right
    have h := h.resolve_left (by rw [beq_iff_eq]; exact hp)
    unfold followsF at *
    by_cases hq : a.values[r.dst.toNat]! = omegaI
    · rw [if_pos hq] at h; cases h
    · rw [if_neg hq, if_pos hm] at h
      rw [if_neg (fun e => hq (hn _ e)), if_pos hb, hc, hv, hv, if_neg hp, if_neg hq]
      simp only [decide_eq_true_eq] at *
      omega

/-! ### the strongest atom, as it is found -/
def nextF (mod : Int) (coefs : List Int) (r : RD) (v : List Int) : Int :=
  if 0 < mod then restF (v[r.src.toNat]! + effectF coefs r) mod else v[r.src.toNat]! + effectF coefs r
/-- one rule: changed, possible, the values behind it -/
def flowF (mod : Int) (coefs : List Int) (r : RD) (v : List Int) : Bool × Bool × List Int :=
  if v[r.src.toNat]! = omegaI then (false, true, v)
  else if v[r.dst.toNat]! = omegaI ∨ (mod = 0 ∧ nextF mod coefs r v < v[r.dst.toNat]!) then (true, true, v.set r.dst.toNat (nextF mod coefs r v))
  else if 0 < mod ∧ nextF mod coefs r v ≠ v[r.dst.toNat]! then (false, false, v) else (false, true, v)
def roundF (mod : Int) (coefs : List Int) : List RD → Bool → List Int → Option (Bool × List Int)
  | [], ch, v => some (ch, v)
  | r :: rs, ch, v => if (flowF mod coefs r v).2.1 then roundF mod coefs rs (ch || (flowF mod coefs r v).1) (flowF mod coefs r v).2.2 else none
/-- at most n + 1 rounds -/
def potF (mod : Int) (coefs : List Int) (rules : List RD) : Nat → List Int → Option (List Int)
  | 0, v => match roundF mod coefs rules false v with
    | some (false, w) => some w
    | _ => none
  | n + 1, v => match roundF mod coefs rules false v with
    | some (false, w) => some w
    | some (true, w) => potF mod coefs rules n w
    | none => none

theorem flow_len (mod : Int) (coefs : List Int) (r : RD) (v : List Int) : (flowF mod coefs r v).2.2.length = v.length := by
  unfold flowF; split <;> (try split) <;> (try split) <;> simp
theorem flow_same {mod : Int} {coefs : List Int} {r : RD} {v : List Int} (hm : 0 ≤ mod) (h1 : (flowF mod coefs r v).1 = false) (h2 : (flowF mod coefs r v).2.1 = true) :
    (flowF mod coefs r v).2.2 = v ∧ keepsF ⟨coefs, mod, v⟩ r = true := by
  unfold flowF at *
  unfold keepsF followsF
  split at h1
  · rename_i h; rw [if_pos h]; exact ⟨rfl, by simp [h]⟩
  · rename_i h
    split at h1
    · cases h1
    · rename_i h3
      have hy : v[r.dst.toNat]! ≠ omegaI := fun e => h3 (.inl e)
      rw [if_neg h, if_neg h3] at *
      split at h2
      · cases h2
      · rename_i h4
        rw [if_neg h4]
        refine ⟨rfl, ?_⟩
        show (v[r.src.toNat]! == omegaI || if v[r.dst.toNat]! = omegaI then false else if mod = 0 then decide (v[r.dst.toNat]! ≤ v[r.src.toNat]! + effectF coefs r) else restF (v[r.src.toNat]! + effectF coefs r) mod == v[r.dst.toNat]!) = true
        rw [if_neg hy, beq_eq_false_iff_ne.2 h, Bool.false_or]
        by_cases h0 : mod = 0
        · have h5 : ¬ nextF mod coefs r v < v[r.dst.toNat]! := fun hl => h3 (.inr ⟨h0, hl⟩)
          unfold nextF at h5
          rw [if_neg (show ¬ 0 < mod by omega)] at h5
          rw [if_pos h0]
          simp only [decide_eq_true_eq]; omega
        · have hp : 0 < mod := by omega
          have h5 : nextF mod coefs r v = v[r.dst.toNat]! := Classical.byContradiction fun hn => h4 ⟨hp, hn⟩
          unfold nextF at h5
          rw [if_pos hp] at h5
          rw [if_neg h0, beq_iff_eq]; exact h5
theorem round_same {mod : Int} {coefs : List Int} (hm : 0 ≤ mod) : ∀ {rs : List RD} {ch : Bool} {v w : List Int}, roundF mod coefs rs ch v = some (false, w) →
    ch = false ∧ w = v ∧ ∀ r ∈ rs, keepsF ⟨coefs, mod, v⟩ r = true
  | [], ch, v, w, h => by
    rw [roundF] at h
    injection h with h; injection h with h1 h2
    exact ⟨h1, h2.symm, fun r hr => by simp at hr⟩
  | r :: rs, ch, v, w, h => by
    rw [roundF] at h
    split at h
    · rename_i hok
      obtain ⟨h1, h2, h3⟩ := round_same hm h
      rw [Bool.or_eq_false_iff] at h1
      obtain ⟨h4, h5⟩ := flow_same hm h1.2 hok
      rw [h4] at h2 h3
      refine ⟨h1.1, h2, fun x hx => ?_⟩
      rw [List.mem_cons] at hx
      rcases hx with rfl | hx
      · exact h5
      · exact h3 x hx
    · cases h
/-- what is found is closed under the rules -/
theorem pot_keeps {mod : Int} {coefs : List Int} {rs : List RD} (hm : 0 ≤ mod) : ∀ {n : Nat} {v w : List Int}, potF mod coefs rs n v = some w → ∀ r ∈ rs, keepsF ⟨coefs, mod, w⟩ r = true
  | 0, v, w, h => by
    rw [potF] at h
    split at h
    · rename_i e
      injection h with h; subst h
      obtain ⟨_, h2, h3⟩ := round_same hm e
      rw [h2]; exact h3
    · cases h
  | n + 1, v, w, h => by
    rw [potF] at h
    split at h
    · rename_i e
      injection h with h; subst h
      obtain ⟨_, h2, h3⟩ := round_same hm e
      rw [h2]; exact h3
    · exact pot_keeps hm h
    · cases h
/-- an invariant of one rule's flow is one of the whole search -/
theorem round_inv {mod : Int} {coefs : List Int} {P : List Int → Prop} : ∀ {rs : List RD} (_ : ∀ r ∈ rs, ∀ v, P v → P (flowF mod coefs r v).2.2) {ch c : Bool} {v w : List Int}, P v → roundF mod coefs rs ch v = some (c, w) → P w
  | [], _, ch, c, v, w, hv, h => by
    rw [roundF] at h
    injection h with h; injection h with h1 h2
    exact h2 ▸ hv
  | r :: rs, hP, ch, c, v, w, hv, h => by
    rw [roundF] at h
    split at h
    · exact round_inv (fun x hx => hP x (List.mem_cons_of_mem _ hx)) (hP r (List.mem_cons_self ..) v hv) h
    · cases h
theorem pot_inv {mod : Int} {coefs : List Int} {P : List Int → Prop} {rs : List RD} (hP : ∀ r ∈ rs, ∀ v, P v → P (flowF mod coefs r v).2.2) : ∀ {n : Nat} {v w : List Int}, P v → potF mod coefs rs n v = some w → P w
  | 0, v, w, hv, h => by
    rw [potF] at h
    split at h
    · rename_i e; injection h with h; subst h; exact round_inv hP hv e
    · cases h
  | n + 1, v, w, hv, h => by
    rw [potF] at h
    split at h
    · rename_i e; injection h with h; subst h; exact round_inv hP hv e
    · rename_i e; exact pot_inv hP (round_inv hP hv e) h
    · cases h
theorem set_bang {l : List Int} {i j : Nat} {x : Int} (h : i < l.length) : (l.set i x)[j]! = if i = j then x else l[j]! := by
  by_cases e : i = j
  · subst e; simp [h]
  · rw [getElem!_def, List.getElem?_set_ne e, if_neg e, getElem!_def]
/-- a closed atom lies below what is found, and a rule's flow is possible -/
theorem flow_above {b : AtomD} {r : RD} {v : List Int} (hm : 0 ≤ b.mod) (hy : r.dst.toNat < v.length) (hk : keepsF b r = true) (h : ∀ s, AboveV b.mod v b.values s) :
    (flowF b.mod b.coefs r v).2.1 = true ∧ ∀ s, AboveV b.mod (flowF b.mod b.coefs r v).2.2 b.values s := by
  by_cases hx : v[r.src.toNat]! = omegaI
  · unfold flowF; rw [if_pos hx]; exact ⟨rfl, h⟩
  have hn := above_step hm rfl rfl (h r.src.toNat) hx hk (n := nextF b.mod b.coefs r v) (by unfold nextF; rfl)
  unfold flowF
  rw [if_neg hx]
  split
  · refine ⟨rfl, fun s => ?_⟩
    unfold AboveV
    show (v.set r.dst.toNat (nextF b.mod b.coefs r v))[s]! ≠ omegaI → _ ∧ if b.mod = 0 then _ ≤ (v.set r.dst.toNat (nextF b.mod b.coefs r v))[s]! else _ = (v.set r.dst.toNat (nextF b.mod b.coefs r v))[s]!
    rw [set_bang hy]
    by_cases e : r.dst.toNat = s
    · rw [if_pos e, ← e]; exact fun _ => hn
    · rw [if_neg e]; exact h s
  · rename_i h3
    split
    · rename_i h4
      have h5 := (h r.dst.toNat fun e => h3 (.inl e)).2
      rw [if_neg (by omega)] at h5
      have h6 := hn.2
      rw [if_neg (by omega)] at h6
      exact absurd (by rw [← h6, h5]) h4.2
    · exact ⟨rfl, h⟩
/-- the value at a state that has one only gets less -/
theorem flow_low {mod : Int} {coefs : List Int} {r : RD} {v : List Int} {s : Nat} (hy : r.dst.toNat < v.length) (hs : v[s]! ≠ omegaI) :
    if mod = 0 then (flowF mod coefs r v).2.2[s]! ≤ v[s]! else (flowF mod coefs r v).2.2[s]! = v[s]! := by
  have key : (flowF mod coefs r v).2.2[s]! = v[s]! ∨ (mod = 0 ∧ (flowF mod coefs r v).2.2[s]! ≤ v[s]!) := by
    unfold flowF
    split
    · exact .inl rfl
    · split
      · rename_i h3
        show (v.set r.dst.toNat (nextF mod coefs r v))[s]! = _ ∨ (mod = 0 ∧ (v.set r.dst.toNat (nextF mod coefs r v))[s]! ≤ _)
        rw [set_bang hy]
        by_cases e : r.dst.toNat = s
        · rw [if_pos e]
          rcases h3 with h3 | h3
          · exact absurd (e ▸ h3) hs
          · right; rw [e] at h3; exact ⟨h3.1, by omega⟩
        · rw [if_neg e]; exact .inl rfl
      · split <;> exact .inl rfl
  by_cases h0 : mod = 0
  · rw [if_pos h0]; rcases key with k | k <;> omega
  · rw [if_neg h0]; rcases key with k | k
    · exact k
    · exact absurd k.1 h0

/-! ### the search ends: models of at most two states -/
/-- a rule that changes nothing -/
theorem flow_stay {b : AtomD} {r : RD} {v : List Int} (hm : 0 ≤ b.mod) (hk : keepsF b r = true) (h : ∀ s, AboveV b.mod v b.values s)
    (hs : v[r.src.toNat]! = omegaI ∨ (v[r.dst.toNat]! ≠ omegaI ∧ (b.mod = 0 → v[r.dst.toNat]! - b.values[r.dst.toNat]! ≤ v[r.src.toNat]! - b.values[r.src.toNat]!))) : flowF b.mod b.coefs r v = (false, true, v) := by
  unfold flowF
  by_cases hx : v[r.src.toNat]! = omegaI
  · rw [if_pos hx]
  have hs := hs.resolve_left hx
  have hn := above_step hm rfl rfl (h r.src.toNat) hx hk (n := nextF b.mod b.coefs r v) (by unfold nextF; rfl)
  have hy := (h r.dst.toNat hs.1).2
  have hxb := (h r.src.toNat hx).1
  rw [if_neg hx]
  by_cases h0 : b.mod = 0
  · have h1 : b.values[r.dst.toNat]! ≤ b.values[r.src.toNat]! + effectF b.coefs r := by
      unfold keepsF at hk
      rw [beq_eq_false_iff_ne.2 hxb, Bool.false_or] at hk
      unfold followsF at hk
      rw [if_neg hn.1, if_pos h0] at hk
      simpa using hk
    have h2 : nextF b.mod b.coefs r v = v[r.src.toNat]! + effectF b.coefs r := by unfold nextF; rw [if_neg (by omega)]
    have h3 := hs.2 h0
    rw [if_neg (fun e => e.elim hs.1 fun e => by omega), if_neg (fun e => by omega)]
  · rw [if_neg h0] at hn hy
    rw [if_neg (fun e => e.elim hs.1 fun e => h0 e.1), if_neg (fun e => e.2 (by rw [← hn.2, hy]))]

/-- what a second state's value may be -/
def Q2 (b : AtomD) (d u : Int) : Prop := u = omegaI ∨ (b.values[1]! ≠ omegaI ∧ if b.mod = 0 then d - b.values[0]! + b.values[1]! ≤ u else b.values[1]! = u)
/-- the first state's value -/
def Q1 (b : AtomD) (d : Int) : Prop := d ≠ omegaI ∧ b.values[0]! ≠ omegaI ∧ if b.mod = 0 then b.values[0]! ≤ d else b.values[0]! = d
def below2 (b : AtomD) (d u : Int) (r : RD) : Prop := r.src = 0 ∧ r.dst = 1 → u ≠ omegaI ∧ (b.mod = 0 → u ≤ nextF b.mod b.coefs r [d, u])
theorem next_first {mod : Int} {coefs : List Int} {r : RD} {d u w : Int} (h : r.src = 0) : nextF mod coefs r [d, u] = nextF mod coefs r [d, w] := by
  unfold nextF; rw [h]; rfl
theorem above2 {b : AtomD} {d u : Int} (h1 : Q1 b d) (h2 : Q2 b d u) (hb : b.values.length = 2) : ∀ s, AboveV b.mod [d, u] b.values s
  | 0 => fun _ => h1.2
  | 1 => fun h => by
    have h3 := h2.resolve_left h
    refine ⟨h3.1, ?_⟩
    have h4 := h1.2.2
    have h5 := h3.2
    show if b.mod = 0 then b.values[1]! ≤ u else b.values[1]! = u
    split
    · rename_i h0; rw [if_pos h0] at h4 h5; omega
    · rename_i h0; rw [if_neg h0] at h5; exact h5
  | s + 2 => fun _ => by
    have e1 : b.values[s + 2]! = 0 := by rw [getElem!_neg b.values (s + 2) (by omega)]; rfl
    have e2 : ([d, u] : List Int)[s + 2]! = 0 := rfl
    rw [e1, e2]
    refine ⟨by decide, ?_⟩
    split
    · exact Int.le_refl _
    · rfl
theorem flow_two {b : AtomD} {r : RD} {d u : Int} (hm : 0 ≤ b.mod) (hb : b.values.length = 2) (h1 : Q1 b d) (h2 : Q2 b d u) (hr : (r.src = 0 ∨ r.src = 1) ∧ (r.dst = 0 ∨ r.dst = 1)) (hk : keepsF b r = true)
    (hs : below2 b d u r) : flowF b.mod b.coefs r [d, u] = (false, true, [d, u]) := by
  have ha := above2 h1 h2 hb
  by_cases h01 : r.src = 0 ∧ r.dst = 1
  · obtain ⟨hu, hle⟩ := hs h01
    have e1 : ([d, u] : List Int)[r.dst.toNat]! = u := by rw [h01.2]; rfl
    have e0 : ([d, u] : List Int)[r.src.toNat]! = d := by rw [h01.1]; rfl
    have hn := above_step hm rfl rfl (ha r.src.toNat) (by rw [e0]; exact h1.1) hk (n := nextF b.mod b.coefs r [d, u]) (by unfold nextF; rfl)
    have hy := (ha r.dst.toNat (by rw [e1]; exact hu)).2
    unfold flowF
    rw [e0, e1, if_neg h1.1]
    rw [e1] at hy
    by_cases h0 : b.mod = 0
    · have h3 := hle h0
      rw [if_neg (fun e => e.elim hu fun e => by omega), if_neg (fun e => by omega)]
    · rw [if_neg h0] at hn hy
      rw [if_neg (fun e => e.elim hu fun e => h0 e.1), if_neg (fun e => e.2 (by rw [← hn.2, hy]))]
  · refine flow_stay hm hk ha ?_
    have h4 := h1.1
    rcases hr with ⟨hx | hx, hy | hy⟩
    · rw [hx, hy]; exact .inr ⟨h4, fun _ => Int.le_refl _⟩
    · exact absurd ⟨hx, hy⟩ h01
    · rw [hx, hy]
      show u = omegaI ∨ (d ≠ omegaI ∧ (b.mod = 0 → d - b.values[0]! ≤ u - b.values[1]!))
      rcases h2 with h2 | h2
      · exact .inl h2
      · refine .inr ⟨h4, fun h0 => ?_⟩
        have := h2.2; rw [if_pos h0] at this; omega
    · rw [hx, hy]
      show u = omegaI ∨ (u ≠ omegaI ∧ _)
      by_cases hu : u = omegaI
      · exact .inl hu
      · exact .inr ⟨hu, fun _ => Int.le_refl _⟩
/-- one rule, whatever the second state's value is -/
theorem flow_two' {b : AtomD} {r : RD} {d u : Int} (hm : 0 ≤ b.mod) (hb : b.values.length = 2) (h1 : Q1 b d) (h2 : Q2 b d u) (hr : (r.src = 0 ∨ r.src = 1) ∧ (r.dst = 0 ∨ r.dst = 1)) (hk : keepsF b r = true)
    (hw : r.src = 0 → nextF b.mod b.coefs r [d, u] ≠ omegaI) :
    ∃ c u', flowF b.mod b.coefs r [d, u] = (c, true, [d, u']) ∧ Q2 b d u' ∧ (u ≠ omegaI → u' ≠ omegaI ∧ (b.mod = 0 → u' ≤ u)) ∧ below2 b d u' r := by
  by_cases hs : below2 b d u r
  · exact ⟨false, u, flow_two hm hb h1 h2 hr hk hs, h2, fun h => ⟨h, fun _ => Int.le_refl _⟩, hs⟩
  · have h01 : r.src = 0 ∧ r.dst = 1 := Classical.byContradiction fun hn => hs fun h => absurd h hn
    have hn : u = omegaI ∨ (b.mod = 0 ∧ nextF b.mod b.coefs r [d, u] < u) := by
      refine Classical.byContradiction fun hn => hs fun _ => ⟨fun e => hn (.inl e), fun h0 => ?_⟩
      have := fun h => hn (.inr ⟨h0, h⟩)
      omega
    have ha := above2 h1 h2 hb
    have e1 : ([d, u] : List Int)[r.dst.toNat]! = u := by rw [h01.2]; rfl
    have e0 : ([d, u] : List Int)[r.src.toNat]! = d := by rw [h01.1]; rfl
    have hstep := above_step hm rfl rfl (ha r.src.toNat) (by rw [e0]; exact h1.1) hk (n := nextF b.mod b.coefs r [d, u]) (by unfold nextF; rfl)
    have hkk := hk
    rw [h01.2] at hstep
    refine ⟨true, nextF b.mod b.coefs r [d, u], ?_, ?_, fun hu => ⟨hw h01.1, fun h0 => ?_⟩, fun _ => ⟨hw h01.1, fun _ => ?_⟩⟩
    · unfold flowF
      rw [e0, e1, if_neg h1.1, if_pos hn, h01.2]; rfl
    · right
      refine ⟨hstep.1, ?_⟩
      by_cases h0 : b.mod = 0
      · rw [if_pos h0]
        unfold keepsF at hkk
        rw [h01.1, h01.2] at hkk
        have hb0 := h1.2.1
        have e3 : (b.values[(0 : Int).toNat]! == omegaI) = false := beq_eq_false_iff_ne.2 hb0
        rw [e3, Bool.false_or] at hkk
        unfold followsF at hkk
        rw [if_neg hstep.1, if_pos h0] at hkk
        have h5 : b.values[1]! ≤ b.values[0]! + effectF b.coefs r := by simpa using hkk
        have h2' : nextF b.mod b.coefs r [d, u] = d + effectF b.coefs r := by unfold nextF; rw [if_neg (by omega), h01.1]; rfl
        omega
      · rw [if_neg h0]
        have := hstep.2
        rw [if_neg h0] at this; exact this
    · rcases hn with hn | hn
      · exact absurd hn hu
      · omega
    · exact Int.le_of_eq (next_first h01.1)
theorem round_two {b : AtomD} {d : Int} (hm : 0 ≤ b.mod) (hb : b.values.length = 2) (h1 : Q1 b d) : ∀ {rs : List RD} (_ : ∀ r ∈ rs, ((r.src = 0 ∨ r.src = 1) ∧ (r.dst = 0 ∨ r.dst = 1)) ∧ keepsF b r = true ∧ ∀ u, r.src = 0 → nextF b.mod b.coefs r [d, u] ≠ omegaI)
    {ch : Bool} {u : Int}, Q2 b d u → ∃ c u', roundF b.mod b.coefs rs ch [d, u] = some (c, [d, u']) ∧ Q2 b d u' ∧ (u ≠ omegaI → u' ≠ omegaI ∧ (b.mod = 0 → u' ≤ u)) ∧ ∀ r ∈ rs, below2 b d u' r
  | [], _, ch, u, h2 => ⟨ch, u, rfl, h2, fun h => ⟨h, fun _ => Int.le_refl _⟩, fun r hr => by simp at hr⟩
  | r :: rs, hr, ch, u, h2 => by
    obtain ⟨ha, hk, hw⟩ := hr r (List.mem_cons_self ..)
    obtain ⟨c, u', e1, e2, e3, e4⟩ := flow_two' hm hb h1 h2 ha hk (hw u)
    obtain ⟨c2, w, f1, f2, f3, f4⟩ := round_two hm hb h1 (fun x hx => hr x (List.mem_cons_of_mem _ hx)) (ch := ch || c) e2
    refine ⟨c2, w, ?_, f2, fun hu => ⟨(f3 (e3 hu).1).1, fun h0 => ?_⟩, fun x hx => ?_⟩
    · rw [roundF, e1, if_pos rfl]; exact f1
    · have := (f3 (e3 hu).1).2 h0
      have := (e3 hu).2 h0
      omega
    · rw [List.mem_cons] at hx
      rcases hx with rfl | hx
      · intro h01
        obtain ⟨g1, g2⟩ := e4 h01
        refine ⟨(f3 g1).1, fun h0 => ?_⟩
        have := (f3 g1).2 h0
        have := g2 h0
        rw [next_first (w := u') h01.1]
        omega
      · exact f4 x hx
theorem round_settled {b : AtomD} {d u : Int} (hm : 0 ≤ b.mod) (hb : b.values.length = 2) (h1 : Q1 b d) (h2 : Q2 b d u) : ∀ {rs : List RD} (_ : ∀ r ∈ rs, ((r.src = 0 ∨ r.src = 1) ∧ (r.dst = 0 ∨ r.dst = 1)) ∧ keepsF b r = true ∧ below2 b d u r) {ch : Bool},
    roundF b.mod b.coefs rs ch [d, u] = some (ch, [d, u])
  | [], _, ch => rfl
  | r :: rs, hr, ch => by
    obtain ⟨ha, hk, hs⟩ := hr r (List.mem_cons_self ..)
    rw [roundF, flow_two hm hb h1 h2 ha hk hs, if_pos rfl, Bool.or_false]
    exact round_settled hm hb h1 h2 fun x hx => hr x (List.mem_cons_of_mem _ hx)
/-- where a closed atom is, the search finds one: two states -/
theorem pot_two {b : AtomD} {d u : Int} {rs : List RD} {n : Nat} (hm : 0 ≤ b.mod) (hb : b.values.length = 2) (h1 : Q1 b d) (h2 : Q2 b d u)
    (hr : ∀ r ∈ rs, ((r.src = 0 ∨ r.src = 1) ∧ (r.dst = 0 ∨ r.dst = 1)) ∧ keepsF b r = true ∧ ∀ u, r.src = 0 → nextF b.mod b.coefs r [d, u] ≠ omegaI) : ∃ w, potF b.mod b.coefs rs (n + 1) [d, u] = some w := by
  obtain ⟨c, u', e1, e2, _, e4⟩ := round_two hm hb h1 hr (ch := false) h2
  rw [potF, e1]
  cases c
  · exact ⟨_, rfl⟩
  · have := round_settled hm hb h1 e2 (rs := rs) (fun r hx => ⟨(hr r hx).1, (hr r hx).2.1, e4 r hx⟩) (ch := false)
    show ∃ w, potF b.mod b.coefs rs n [d, u'] = some w
    cases n
    · rw [potF, this]; exact ⟨_, rfl⟩
    · rw [potF, this]; exact ⟨_, rfl⟩
/-- one state -/
theorem pot_one {b : AtomD} {d : Int} {rs : List RD} {n : Nat} (hm : 0 ≤ b.mod) (hb : b.values.length = 1) (h1 : Q1 b d)
    (hr : ∀ r ∈ rs, r.src = 0 ∧ r.dst = 0 ∧ keepsF b r = true) : potF b.mod b.coefs rs n [d] = some [d] := by
  have ha : ∀ s, AboveV b.mod [d] b.values s
    | 0 => fun _ => h1.2
    | s + 1 => fun _ => by
      have e1 : b.values[s + 1]! = 0 := by rw [getElem!_neg b.values (s + 1) (by omega)]; rfl
      have e2 : ([d] : List Int)[s + 1]! = 0 := rfl
      rw [e1, e2]
      refine ⟨by decide, ?_⟩
      split
      · exact Int.le_refl _
      · rfl
  have hround : ∀ {rs : List RD} (_ : ∀ r ∈ rs, r.src = 0 ∧ r.dst = 0 ∧ keepsF b r = true) {ch : Bool}, roundF b.mod b.coefs rs ch [d] = some (ch, [d]) := by
    intro rs
    induction rs with
    | nil => intro _ ch; rfl
    | cons r rs ih =>
      intro hr ch
      obtain ⟨hx, hy, hk⟩ := hr r (List.mem_cons_self ..)
      have e := flow_stay hm hk ha (by rw [hx, hy]; exact .inr ⟨h1.1, fun _ => Int.le_refl _⟩)
      rw [roundF, e, if_pos rfl, Bool.or_false]
      exact ih fun x hx => hr x (List.mem_cons_of_mem _ hx)
  have := hround hr (ch := false)
  cases n
  · rw [potF, this]
  · rw [potF, this]

/-! ### what the search begins with, and how large its values become -/
def firstF (mod f0 : Int) : Int := if 0 < mod then restF f0 mod else f0
def beginF (mod : Int) (ns : Nat) (f0 : Int) : List Int := (List.replicate ns omegaI).set 0 (firstF mod f0)
theorem begin_len (mod : Int) (ns : Nat) (f0 : Int) : (beginF mod ns f0).length = ns := by simp [beginF]
theorem begin_zero {mod : Int} {ns : Nat} {f0 : Int} (h : 0 < ns) : (beginF mod ns f0)[0]! = firstF mod f0 := by
  unfold beginF; rw [set_bang (by simpa using h), if_pos rfl]
theorem begin_succ {mod : Int} {ns s : Nat} {f0 : Int} (h : 0 < ns) (hs : s + 1 < ns) : (beginF mod ns f0)[s + 1]! = omegaI := by
  unfold beginF; rw [set_bang (by simpa using h), if_neg (by omega), getElem!_pos _ _ (by simpa using hs)]; simp
theorem first_lt {mod f0 : Int} (h : f0 < omegaI) (hm : mod ≤ omegaI) : firstF mod f0 < omegaI := by
  unfold firstF; split
  · rename_i hp
    rw [restF_emod hp]
    have := Int.emod_lt_of_pos f0 hp
    omega
  · exact h
/-- rules of so many states -/
def RulesIn (ns : Nat) (rs : List RD) : Prop := ∀ r ∈ rs, r.dst.toNat < ns
/-- what is found holds at the start -/
theorem pot_start {mod f0 : Int} {coefs : List Int} {rs : List RD} {ns n : Nat} {w : List Int} (hns : 0 < ns) (hr : RulesIn ns rs) (hm : 0 ≤ mod) (hm2 : mod ≤ omegaI) (hf : f0 < omegaI)
    (h : potF mod coefs rs n (beginF mod ns f0) = some w) : followsF ⟨coefs, mod, w⟩ f0 0 = true := by
  have hlt := first_lt hf hm2
  have key : w.length = ns ∧ (if mod = 0 then w[0]! ≤ firstF mod f0 else w[0]! = firstF mod f0) :=
    pot_inv (P := fun v => v.length = ns ∧ (if mod = 0 then v[0]! ≤ firstF mod f0 else v[0]! = firstF mod f0)) (fun r hx v ⟨h1, h2⟩ => by
      have h0 : v[0]! ≠ omegaI := by
        intro e; rw [e] at h2
        split at h2 <;> omega
      have := flow_low (mod := mod) (coefs := coefs) (r := r) (v := v) (s := 0) (by rw [h1]; exact hr r hx) h0
      refine ⟨by rw [flow_len, h1], ?_⟩
      split
      · rename_i e; rw [if_pos e] at this h2; omega
      · rename_i e; rw [if_neg e] at this h2; rw [this, h2]) ⟨begin_len .., by rw [begin_zero hns]; split; exact Int.le_refl _; rfl⟩ h
  have hw := key.2
  unfold followsF
  show (if w[0]! = omegaI then false else if mod = 0 then decide (w[0]! ≤ f0) else restF f0 mod == w[0]!) = true
  by_cases h0 : mod = 0
  · rw [if_pos h0] at hw
    have e : firstF mod f0 = f0 := by unfold firstF; rw [if_neg (by omega)]
    rw [e] at hw
    rw [if_neg (by omega), if_pos h0]
    simpa using hw
  · rw [if_neg h0] at hw
    rw [if_neg (by omega), if_neg h0, hw]
    unfold firstF
    rw [if_pos (by omega), beq_self_eq_true]
/-- a closed atom begins below -/
theorem begin_above {b : AtomD} {f0 : Int} {ns : Nat} (hns : 0 < ns) (hbl : b.values.length = ns) (hm : 0 ≤ b.mod) (hs : followsF b f0 0 = true) : ∀ s, AboveV b.mod (beginF b.mod ns f0) b.values s := by
  intro s hne
  by_cases h : s < ns
  · cases s with
    | zero =>
      rw [begin_zero hns]
      unfold followsF at hs
      split at hs
      · cases hs
      · rename_i hb
        refine ⟨hb, ?_⟩
        split at hs
        · rename_i h0; rw [if_pos h0]; unfold firstF; rw [if_neg (by omega)]; simpa using hs
        · rename_i h0; rw [if_neg h0]; unfold firstF; rw [if_pos (by omega)]; exact (beq_iff_eq.1 hs).symm
    | succ s => exact absurd (begin_succ hns h) hne
  · have e1 : b.values[s]! = 0 := by rw [getElem!_neg b.values s (by omega)]; rfl
    have e2 : (beginF b.mod ns f0)[s]! = 0 := by rw [getElem!_neg (beginF b.mod ns f0) s (by rw [begin_len]; omega)]; rfl
    rw [e1, e2]
    refine ⟨by decide, ?_⟩
    split
    · exact Int.le_refl _
    · rfl
/-- every closed atom is below what is found -/
theorem pot_above {b : AtomD} {f0 : Int} {ns n : Nat} {rs : List RD} {w : List Int} (hns : 0 < ns) (hbl : b.values.length = ns) (hr : RulesIn ns rs) (hm : 0 ≤ b.mod) (hs : followsF b f0 0 = true)
    (hk : ∀ r ∈ rs, keepsF b r = true) (h : potF b.mod b.coefs rs n (beginF b.mod ns f0) = some w) : ∀ s, AboveV b.mod w b.values s :=
  (pot_inv (P := fun v => v.length = ns ∧ ∀ s, AboveV b.mod v b.values s) (fun r hx v ⟨h1, h2⟩ => ⟨by rw [flow_len, h1], (flow_above hm (by rw [h1]; exact hr r hx) (hk r hx) h2).2⟩)
    ⟨begin_len .., begin_above hns hbl hm hs⟩ h).2

/-- values up to a bound -/
def InB (B : Int) (v : List Int) : Prop := ∀ s : Nat, v[s]! = omegaI ∨ (-B ≤ v[s]! ∧ v[s]! ≤ B)
theorem InB.mono {B C : Int} {v : List Int} (h : InB B v) (hBC : B ≤ C) : InB C v := fun s => (h s).imp id fun h => by omega
theorem flow_bnd {mod B E : Int} {coefs : List Int} {r : RD} {v : List Int} (hy : r.dst.toNat < v.length) (_hE0 : 0 ≤ E) (hB : mod ≤ B) (hE : -E ≤ effectF coefs r ∧ effectF coefs r ≤ E) (h : InB B v) :
    InB (B + E) (flowF mod coefs r v).2.2 := by
  have hv := h.mono (show B ≤ B + E by omega)
  unfold flowF
  split
  · exact hv
  · rename_i hx
    split
    · intro s
      show (v.set r.dst.toNat (nextF mod coefs r v))[s]! = omegaI ∨ _ ≤ (v.set r.dst.toNat (nextF mod coefs r v))[s]! ∧ (v.set r.dst.toNat (nextF mod coefs r v))[s]! ≤ _
      rw [set_bang hy]
      split
      · right
        have h1 := (h r.src.toNat).resolve_left hx
        unfold nextF
        split
        · rename_i hp
          rw [restF_emod hp]
          have h2 := Int.emod_lt_of_pos (v[r.src.toNat]! + effectF coefs r) hp
          have h3 := Int.emod_nonneg (v[r.src.toNat]! + effectF coefs r) (show mod ≠ 0 by omega)
          omega
        · omega
      · exact hv s
    · split <;> exact hv
theorem round_bnd {mod E : Int} {coefs : List Int} {ns : Nat} (hE0 : 0 ≤ E) : ∀ {rs : List RD} (_ : RulesIn ns rs) (_ : ∀ r ∈ rs, -E ≤ effectF coefs r ∧ effectF coefs r ≤ E) {ch c : Bool} {v w : List Int} {B : Int}, v.length = ns → mod ≤ B → InB B v →
    roundF mod coefs rs ch v = some (c, w) → w.length = ns ∧ InB (B + rs.length * E) w
  | [], _, _, ch, c, v, w, B, hl, _, hv, h => by
    rw [roundF] at h
    injection h with h; injection h with h1 h2
    subst h2
    refine ⟨hl, ?_⟩
    simpa using hv
  | r :: rs, hr, hE, ch, c, v, w, B, hl, hB, hv, h => by
    rw [roundF] at h
    split at h
    · have := round_bnd hE0 (fun x hx => hr x (List.mem_cons_of_mem _ hx)) (fun x hx => hE x (List.mem_cons_of_mem _ hx)) (by rw [flow_len, hl]) (show mod ≤ B + E by omega)
        (flow_bnd (by rw [hl]; exact hr r (List.mem_cons_self ..)) hE0 hB (hE r (List.mem_cons_self ..)) hv) h
      refine ⟨this.1, this.2.mono ?_⟩
      rw [List.length_cons, Int.natCast_add, Int.add_mul]; omega
    · cases h
theorem pot_bnd {mod E : Int} {coefs : List Int} {ns : Nat} {rs : List RD} (hE0 : 0 ≤ E) (hr : RulesIn ns rs) (hE : ∀ r ∈ rs, -E ≤ effectF coefs r ∧ effectF coefs r ≤ E) : ∀ {n : Nat} {v w : List Int} {B : Int}, v.length = ns → mod ≤ B → InB B v →
    potF mod coefs rs n v = some w → w.length = ns ∧ InB (B + (n + 1 : Nat) * (rs.length * E)) w
  | 0, v, w, B, hl, hB, hv, h => by
    rw [potF] at h
    split at h
    · rename_i e; injection h with h; subst h
      have := round_bnd hE0 hr hE hl hB hv e
      refine ⟨this.1, this.2.mono ?_⟩
      omega
    · cases h
  | n + 1, v, w, B, hl, hB, hv, h => by
    have hp : 0 ≤ (rs.length : Int) * E := Int.mul_nonneg (by omega) hE0
    have hq : 0 ≤ ((n + 1 : Nat) : Int) * (rs.length * E) := Int.mul_nonneg (by omega) hp
    have e1 : ((n + 1 + 1 : Nat) : Int) * (rs.length * E) = ((n + 1 : Nat) : Int) * (rs.length * E) + rs.length * E := by rw [Int.natCast_add (n + 1) 1, Int.add_mul]; omega
    rw [potF] at h
    split at h
    · rename_i e; injection h with h; subst h
      have := round_bnd hE0 hr hE hl hB hv e
      exact ⟨this.1, this.2.mono (by omega)⟩
    · rename_i e
      have h1 := round_bnd hE0 hr hE hl hB hv e
      have := pot_bnd hE0 hr hE h1.1 (by omega) h1.2 h
      exact ⟨this.1, this.2.mono (by omega)⟩
    · cases h
end Go.AM

/-! ## CmA -/
namespace Go.AM
open Go Go.Proofs Go.RowKit

def vStr (s : ByteArray) : AV := .sc (.string s)
def vss (l : List ByteArray) : AV := .sl 0 1 (l.map vStr)
def vTake (t : Int × Int × Int) : AV := .ag [vi t.1, vi t.2.1, vi t.2.2]
/-- a rule: 14 cells -/
def vRule (r : RD) : AV := .ag [vStr r.name, vi r.src, vi r.dst, vs 0 r.need, vs 0 r.give, vs 0 r.move, vi r.channel, vi r.act, vi r.letter, vs 0 r.path, vs 0 r.next, .sl 0 3 (r.takes.map vTake), vs 0 r.makes, vi r.second]
/-- a model -/
structure MD where
  kind : Int
  states : List ByteArray
  places : List ByteArray
  letters : List ByteArray := []
  ranks : List Int := []
  levels : Int := 0
  age : Int := 0
  rules : List RD
  start : CV
  deriving Inhabited
/-- a model: 10 cells -/
def cM (m : MD) : List AV := [vi m.kind, vss m.states, vss m.places, vss m.letters, vs 0 m.ranks, vi m.levels, vi m.age, .sl 0 14 (m.rules.map vRule), vi m.start.n, .sl 0 2 (m.start.kids.map vV)]
def vM (m : MD) : AV := .ag (cM m)

/-! ### valid counter models -/
def letterB (c : UInt8) : Bool := decide (97 ≤ c) && decide (c ≤ 122)
def digitB (c : UInt8) : Bool := decide (48 ≤ c) && decide (c ≤ 57)
def partB (c : UInt8) : Bool := letterB c || digitB c || c == 95
/-- a name -/
def wordB (s : ByteArray) : Bool := decide (0 < s.size) && decide (s.size ≤ 12) && letterB (s.get! 0) && s.toList.all partB
def kwL : List ByteArray := [⟨#[109, 111, 100, 101, 108]⟩, ⟨#[115, 116, 97, 116, 101, 115]⟩, ⟨#[112, 108, 97, 99, 101, 115]⟩, ⟨#[108, 101, 116, 116, 101, 114, 115]⟩, ⟨#[108, 101, 118, 101, 108, 115]⟩, ⟨#[97, 103, 101]⟩, ⟨#[114, 117, 108, 101]⟩, ⟨#[110, 101, 101, 100]⟩, ⟨#[103, 105, 118, 101]⟩, ⟨#[109, 111, 118, 101]⟩, ⟨#[101, 109, 112, 116, 121]⟩, ⟨#[115, 101, 110, 100]⟩, ⟨#[114, 101, 99, 101, 105, 118, 101]⟩, ⟨#[112, 97, 116, 104]⟩, ⟨#[110, 101, 120, 116]⟩, ⟨#[116, 97, 107, 101]⟩, ⟨#[109, 97, 107, 101]⟩, ⟨#[115, 116, 97, 114, 116]⟩]
def keywordB (s : ByteArray) : Bool := kwL.any fun k => s.toList == k.toList
/-- the name with a number: it is one, and not there before -/
def okN (l : List ByteArray) (i : Nat) : Bool := wordB l[i]! && !keywordB l[i]! && !((l.take i).map fun s => s.data.toList).contains l[i]!.data.toList
/-- names, each once -/
def namesB (l : List ByteArray) : Bool := (List.range l.length).all (okN l)
def namesOf (m : MD) : List ByteArray := m.states ++ m.places ++ m.letters ++ m.rules.map RD.name
def betweenB (x low high : Int) : Bool := decide (low ≤ x) && decide (x ≤ high)
def smallB (l : List Int) : Bool := l.all fun x => betweenB x 0 16
def changesB (np : Nat) (r : RD) : Bool := decide (r.need.length = np) && decide (r.give.length = np) && smallB r.need && smallB r.give
def movesB (np : Nat) (r : RD) : Bool := (r.move.length == 0) || (decide (r.move.length = np) && r.move.all fun x => betweenB x (-1) (np - 1))
def indexB (x : Int) (n : Nat) : Bool := decide (0 ≤ x) && decide (x < n)
/-- a rule of a counter model with so many states and places -/
def ruleB (ns np : Nat) (r : RD) : Bool := indexB r.dst ns && indexB r.src ns && changesB np r && movesB np r
/-- the fields of other kinds are empty -/
def bareB (r : RD) : Bool := r.channel == 0 && r.act == 0 && r.letter == 0 && r.path.length == 0 && r.next.length == 0 && r.takes.length == 0 && r.makes.length == 0 && r.second == 0
/-- a configuration with so many states and places -/
def confB (ns np : Nat) (c : CV) : Bool :=
  match c with
  | .mk n (x :: l) => n == 0 && decide (0 ≤ x.n) && decide (x.n < ns) && x.kids.length == 0 && l.length == np && l.all (fun k => decide (0 ≤ k.n) && decide (k.n ≤ 1048576) && k.kids.length == 0)
  | _ => false
structure GoodM (m : MD) : Prop where
  kind : m.kind = 1
  states : 1 ≤ m.states.length ∧ m.states.length ≤ 8
  places : 1 ≤ m.places.length ∧ m.places.length ≤ 6
  few : m.rules.length ≤ 12
  letters : m.letters = []
  ranks : m.ranks = []
  levels : m.levels = 0
  age : m.age = 0
  names : namesB (namesOf m) = true
  rules : ∀ r ∈ m.rules, ruleB m.states.length m.places.length r = true ∧ bareB r = true
  start : confB m.states.length m.places.length m.start = true
theorem getRule {l : List RD} {i : Nat} (h : i < l.length) : (l.map vRule)[i]? = some (vRule l[i]!) := by
  rw [List.getElem?_map, List.getElem?_eq_getElem h, getElem!_pos l i h, Option.map_some]
theorem getStr {l : List ByteArray} {i : Nat} (h : i < l.length) : (l.map vStr)[i]? = some (.sc (.string l[i]!)) := by
  rw [List.getElem?_map, List.getElem?_eq_getElem h, getElem!_pos l i h, Option.map_some]; rfl
end Go.AM

/-! ## CmB0 -/
namespace Go.Proofs.YtlldkikmjeeamaaGreat
open Go.ChangeShapes Go.WideShapes Go.ChangeAt Go.RowKit Go.AM

theorem own : ownKnob Tryz.prog.godebug = none := by kernel_rfl
theorem laidOut : laidOutB Tryz.prog = true := by kernel_rfl
theorem read22 : Tryz.prog.readableRec 22 = true ∧ 22 < Tryz.prog.types.size := ⟨by kernel_rfl, of_decide_eq_true (by kernel_rfl)⟩
theorem reads22 (n : Nat) : ∀ t ∈ List.replicate n 22, Tryz.prog.readableRec t = true ∧ t < Tryz.prog.types.size := fun t ht => by rw [List.eq_of_mem_replicate ht]; exact read22

section
variable {H : Type} {enc : TypeId × Value → H} {P : Program} {w : World} {base : Nat} {spare : Nat → Bool} {held : Bool}
/-- a byte -/
def numU (d : DataW H) : Int := IntKind.u8.wrap (numI d)
theorem numU_range (d : DataW H) : 0 ≤ numU d ∧ numU d < 256 := by unfold numU; rw [IntKind.wrap_u8]; omega
theorem stands_u8 {e : TypeId} (he : P.underlying e = some (.int .u8)) : Stands enc P w base spare held e fun d => vu (numU d) := by
  intro n v d ps h
  obtain ⟨x, e0, e1, wx⟩ := DataW.trod_int he h
  simp only [List.cons.injEq, and_true] at e0
  simp only [Prod.mk.injEq] at e1
  obtain ⟨rfl, _⟩ := e1
  subst e0
  have e2 : numU (.lit (.int .u8 x) : DataW H) = x := by
    have : IntKind.u8.wrap x = x := by
      have h1 : 0 ≤ x ∧ x ≤ 255 := by simpa [Lit.wf, IntKind.min, IntKind.max, IntKind.signed, IntKind.bits] using wx
      rw [IntKind.wrap_u8]; omega
    exact this
  simp only [e2, vu]
  exact ⟨.sc _, rfl, rfl⟩
theorem row_len {α : Type} {t e : TypeId} {f : DataW H → α} {v : Value} {d : DataW H} {ps : List MemPlace} (ht : P.underlying t = some (.slice e)) (hc : P.cellsOf e = 1) (h1 : v.cells.toList = [v]) (h : DataW.Trod enc P w base spare held t v d ps) : (rowOf f d).length ≤ 9223372036854775807 := by
  obtain ⟨n, h⟩ := h
  rw [h1] at h
  rcases Go.Deep.open_slice1 ht hc h with ⟨_, h2⟩ | ⟨a, len, cap, m, n', V, D, Pl, _, _, hl, hm, _, h2, _⟩
  · simp only [Prod.mk.injEq] at h2
    obtain ⟨rfl, _⟩ := h2
    simp [rowOf]
  · simp only [Prod.mk.injEq] at h2
    obtain ⟨rfl, _⟩ := h2
    simp only [rowOf, List.length_map, List.length_range]
    unfold maxLen at hm; omega
/-- a number of 16 bits -/
def numW (d : DataW H) : Int := IntKind.u16.wrap (numI d)
theorem numW_range (d : DataW H) : 0 ≤ numW d ∧ numW d < 65536 := by unfold numW; rw [IntKind.wrap_u16]; omega
theorem stands_u16 {e : TypeId} (he : P.underlying e = some (.int .u16)) : Stands enc P w base spare held e fun d => .sc (.int .u16 (numW d)) := by
  intro n v d ps h
  obtain ⟨x, e0, e1, wx⟩ := DataW.trod_int he h
  simp only [List.cons.injEq, and_true] at e0
  simp only [Prod.mk.injEq] at e1
  obtain ⟨rfl, _⟩ := e1
  subst e0
  have e2 : numW (.lit (.int .u16 x) : DataW H) = x := by
    have : IntKind.u16.wrap x = x := by
      have h1 : 0 ≤ x ∧ x ≤ 65535 := by simpa [Lit.wf, IntKind.min, IntKind.max, IntKind.signed, IntKind.bits] using wx
      rw [IntKind.wrap_u16]; omega
    exact this
  simp only [e2]
  exact ⟨.sc _, rfl, rfl⟩
theorem rowU_range (d : DataW H) : ∀ x ∈ rowOf numU d, 0 ≤ x ∧ x < 256 := fun x hx => by
  cases d <;> simp only [rowOf, List.not_mem_nil] at hx
  obtain ⟨y, _, rfl⟩ := List.mem_map.1 hx
  exact numU_range y
end
end Go.Proofs.YtlldkikmjeeamaaGreat

/-! ## Ty -/
namespace Go.AM
open Go Go.Proofs

theorem tinfo_0 : tinfo Tryz.prog 0 = some (1, 0, some (Value.tuple (List.toArray []))) := by kernel_rfl
theorem agg_0 : aggT Tryz.prog 0 = some false := by kernel_rfl
theorem tinfo_1 : tinfo Tryz.prog 1 = some (1, 8, some Value.nilFunc) := by kernel_rfl
theorem agg_1 : aggT Tryz.prog 1 = some false := by kernel_rfl
theorem tinfo_2 : tinfo Tryz.prog 2 = some (1, 8, some (Value.int IntKind.i64 (0))) := by kernel_rfl
theorem agg_2 : aggT Tryz.prog 2 = some false := by kernel_rfl
theorem tinfo_3 : tinfo Tryz.prog 3 = some (1, 8, some (Value.int IntKind.i64 (0))) := by kernel_rfl
theorem agg_3 : aggT Tryz.prog 3 = some false := by kernel_rfl
theorem tinfo_4 : tinfo Tryz.prog 4 = some (1, 1, some (Value.bool false)) := by kernel_rfl
theorem agg_4 : aggT Tryz.prog 4 = some false := by kernel_rfl
theorem tinfo_5 : tinfo Tryz.prog 5 = some (1, 1, some (Value.int IntKind.u8 (0))) := by kernel_rfl
theorem agg_5 : aggT Tryz.prog 5 = some false := by kernel_rfl
theorem tinfo_6 : tinfo Tryz.prog 6 = some (1, 1, some (Value.int IntKind.u8 (0))) := by kernel_rfl
theorem agg_6 : aggT Tryz.prog 6 = some false := by kernel_rfl
theorem tinfo_7 : tinfo Tryz.prog 7 = some (4, 24, some (Value.agg (List.toArray [Value.int IntKind.i64 (0), Value.int IntKind.i64 (0), Value.bool false, Value.int IntKind.u8 (0)]))) := by kernel_rfl
theorem agg_7 : aggT Tryz.prog 7 = some true := by kernel_rfl
theorem tinfo_8 : tinfo Tryz.prog 8 = some (4, 24, some (Value.agg (List.toArray [Value.int IntKind.i64 (0), Value.int IntKind.i64 (0), Value.bool false, Value.int IntKind.u8 (0)]))) := by kernel_rfl
theorem agg_8 : aggT Tryz.prog 8 = some true := by kernel_rfl
theorem tinfo_9 : tinfo Tryz.prog 9 = some (1, 16, some (Value.string (ByteArray.mk (List.toArray [])))) := by kernel_rfl
theorem agg_9 : aggT Tryz.prog 9 = some false := by kernel_rfl
theorem tinfo_10 : tinfo Tryz.prog 10 = some (1, 16, some (Value.string (ByteArray.mk (List.toArray [])))) := by kernel_rfl
theorem agg_10 : aggT Tryz.prog 10 = some false := by kernel_rfl
theorem tinfo_11 : tinfo Tryz.prog 11 = some (1, 16, some (Value.string (ByteArray.mk (List.toArray [])))) := by kernel_rfl
theorem agg_11 : aggT Tryz.prog 11 = some false := by kernel_rfl
theorem tinfo_12 : tinfo Tryz.prog 12 = some (1, 8, some (Value.int IntKind.u64 (0))) := by kernel_rfl
theorem agg_12 : aggT Tryz.prog 12 = some false := by kernel_rfl
theorem tinfo_13 : tinfo Tryz.prog 13 = some (2, 24, some (Value.agg (List.toArray [Value.string (ByteArray.mk (List.toArray [])), Value.int IntKind.u64 (0)]))) := by kernel_rfl
theorem agg_13 : aggT Tryz.prog 13 = some true := by kernel_rfl
theorem tinfo_14 : tinfo Tryz.prog 14 = some (2, 24, some (Value.agg (List.toArray [Value.string (ByteArray.mk (List.toArray [])), Value.int IntKind.u64 (0)]))) := by kernel_rfl
theorem agg_14 : aggT Tryz.prog 14 = some true := by kernel_rfl
theorem tinfo_15 : tinfo Tryz.prog 15 = some (1, 8, some (Value.pointer none)) := by kernel_rfl
theorem agg_15 : aggT Tryz.prog 15 = some false := by kernel_rfl
theorem tinfo_16 : tinfo Tryz.prog 16 = some (1, 8, some (Value.pointer none)) := by kernel_rfl
theorem agg_16 : aggT Tryz.prog 16 = some false := by kernel_rfl
theorem tinfo_17 : tinfo Tryz.prog 17 = some (1, 8, some (Value.pointer none)) := by kernel_rfl
theorem agg_17 : aggT Tryz.prog 17 = some false := by kernel_rfl
theorem tinfo_18 : tinfo Tryz.prog 18 = some (1, 8, some (Value.agg (List.toArray [Value.pointer none]))) := by kernel_rfl
theorem agg_18 : aggT Tryz.prog 18 = some true := by kernel_rfl
theorem tinfo_19 : tinfo Tryz.prog 19 = some (1, 8, some (Value.agg (List.toArray [Value.pointer none]))) := by kernel_rfl
theorem agg_19 : aggT Tryz.prog 19 = some true := by kernel_rfl
theorem tinfo_20 : tinfo Tryz.prog 20 = some (1, 16, some Value.nilIface) := by kernel_rfl
theorem agg_20 : aggT Tryz.prog 20 = some false := by kernel_rfl
theorem tinfo_21 : tinfo Tryz.prog 21 = some (1, 4, some (Value.int IntKind.i32 (0))) := by kernel_rfl
theorem agg_21 : aggT Tryz.prog 21 = some false := by kernel_rfl
theorem tinfo_22 : tinfo Tryz.prog 22 = some (1, 24, some (Value.slice none 0 0)) := by kernel_rfl
theorem agg_22 : aggT Tryz.prog 22 = some false := by kernel_rfl
theorem tinfo_23 : tinfo Tryz.prog 23 = some (1, 8, some Value.nilFunc) := by kernel_rfl
theorem agg_23 : aggT Tryz.prog 23 = some false := by kernel_rfl
theorem tinfo_24 : tinfo Tryz.prog 24 = some (1, 8, some (Value.pointer none)) := by kernel_rfl
theorem agg_24 : aggT Tryz.prog 24 = some false := by kernel_rfl
theorem tinfo_25 : tinfo Tryz.prog 25 = some (1, 8, some Value.nilFunc) := by kernel_rfl
theorem agg_25 : aggT Tryz.prog 25 = some false := by kernel_rfl
theorem tinfo_26 : tinfo Tryz.prog 26 = some (1, 24, some (Value.slice none 0 0)) := by kernel_rfl
theorem agg_26 : aggT Tryz.prog 26 = some false := by kernel_rfl
theorem tinfo_27 : tinfo Tryz.prog 27 = some (1, 24, some (Value.slice none 0 0)) := by kernel_rfl
theorem agg_27 : aggT Tryz.prog 27 = some false := by kernel_rfl
theorem tinfo_28 : tinfo Tryz.prog 28 = some (1, 24, some (Value.slice none 0 0)) := by kernel_rfl
theorem agg_28 : aggT Tryz.prog 28 = some false := by kernel_rfl
theorem tinfo_29 : tinfo Tryz.prog 29 = some (1, 24, some (Value.slice none 0 0)) := by kernel_rfl
theorem agg_29 : aggT Tryz.prog 29 = some false := by kernel_rfl
theorem tinfo_30 : tinfo Tryz.prog 30 = some (2, 32, some (Value.agg (List.toArray [Value.int IntKind.i64 (0), Value.slice none 0 0]))) := by kernel_rfl
theorem agg_30 : aggT Tryz.prog 30 = some true := by kernel_rfl
theorem tinfo_31 : tinfo Tryz.prog 31 = some (2, 32, some (Value.agg (List.toArray [Value.int IntKind.i64 (0), Value.slice none 0 0]))) := by kernel_rfl
theorem agg_31 : aggT Tryz.prog 31 = some true := by kernel_rfl
theorem tinfo_32 : tinfo Tryz.prog 32 = some (10, 176, some (Value.agg (List.toArray [Value.int IntKind.i64 (0), Value.slice none 0 0, Value.slice none 0 0, Value.slice none 0 0, Value.slice none 0 0, Value.int IntKind.i64 (0), Value.int IntKind.i64 (0), Value.slice none 0 0, Value.int IntKind.i64 (0), Value.slice none 0 0]))) := by kernel_rfl
theorem agg_32 : aggT Tryz.prog 32 = some true := by kernel_rfl
theorem tinfo_33 : tinfo Tryz.prog 33 = some (10, 176, some (Value.agg (List.toArray [Value.int IntKind.i64 (0), Value.slice none 0 0, Value.slice none 0 0, Value.slice none 0 0, Value.slice none 0 0, Value.int IntKind.i64 (0), Value.int IntKind.i64 (0), Value.slice none 0 0, Value.int IntKind.i64 (0), Value.slice none 0 0]))) := by kernel_rfl
theorem agg_33 : aggT Tryz.prog 33 = some true := by kernel_rfl
theorem tinfo_34 : tinfo Tryz.prog 34 = some (1, 8, some Value.nilFunc) := by kernel_rfl
theorem agg_34 : aggT Tryz.prog 34 = some false := by kernel_rfl
theorem tinfo_35 : tinfo Tryz.prog 35 = some (1, 8, some Value.nilFunc) := by kernel_rfl
theorem agg_35 : aggT Tryz.prog 35 = some false := by kernel_rfl
theorem tinfo_36 : tinfo Tryz.prog 36 = some (1, 8, some (Value.int IntKind.i64 (0))) := by kernel_rfl
theorem agg_36 : aggT Tryz.prog 36 = some false := by kernel_rfl
theorem tinfo_37 : tinfo Tryz.prog 37 = some (1, 0, some (Value.tuple (List.toArray [Value.int IntKind.i64 (0), Value.int IntKind.i64 (0)]))) := by kernel_rfl
theorem agg_37 : aggT Tryz.prog 37 = some false := by kernel_rfl
theorem tinfo_38 : tinfo Tryz.prog 38 = some (1, 8, some Value.nilFunc) := by kernel_rfl
theorem agg_38 : aggT Tryz.prog 38 = some false := by kernel_rfl
theorem tinfo_39 : tinfo Tryz.prog 39 = some (1, 8, some Value.nilFunc) := by kernel_rfl
theorem agg_39 : aggT Tryz.prog 39 = some false := by kernel_rfl
theorem tinfo_40 : tinfo Tryz.prog 40 = some (1, 0, some (Value.tuple (List.toArray [Value.int IntKind.i64 (0), Value.bool false, Value.int IntKind.i64 (0)]))) := by kernel_rfl
theorem agg_40 : aggT Tryz.prog 40 = some false := by kernel_rfl
theorem tinfo_41 : tinfo Tryz.prog 41 = some (1, 8, some Value.nilFunc) := by kernel_rfl
theorem agg_41 : aggT Tryz.prog 41 = some false := by kernel_rfl
theorem tinfo_42 : tinfo Tryz.prog 42 = some (1, 0, some (Value.tuple (List.toArray [Value.slice none 0 0, Value.int IntKind.i64 (0)]))) := by kernel_rfl
theorem agg_42 : aggT Tryz.prog 42 = some false := by kernel_rfl
theorem tinfo_43 : tinfo Tryz.prog 43 = some (1, 8, some Value.nilFunc) := by kernel_rfl
theorem agg_43 : aggT Tryz.prog 43 = some false := by kernel_rfl
theorem tinfo_44 : tinfo Tryz.prog 44 = some (1, 8, some Value.nilFunc) := by kernel_rfl
theorem agg_44 : aggT Tryz.prog 44 = some false := by kernel_rfl
theorem tinfo_45 : tinfo Tryz.prog 45 = some (1, 0, some (Value.tuple (List.toArray [Value.slice none 0 0, Value.int IntKind.i64 (0)]))) := by kernel_rfl
theorem agg_45 : aggT Tryz.prog 45 = some false := by kernel_rfl
theorem tinfo_46 : tinfo Tryz.prog 46 = some (1, 8, some Value.nilFunc) := by kernel_rfl
theorem agg_46 : aggT Tryz.prog 46 = some false := by kernel_rfl
theorem tinfo_47 : tinfo Tryz.prog 47 = some (1, 8, some Value.nilFunc) := by kernel_rfl
theorem agg_47 : aggT Tryz.prog 47 = some false := by kernel_rfl
theorem tinfo_48 : tinfo Tryz.prog 48 = some (1, 8, some Value.nilFunc) := by kernel_rfl
theorem agg_48 : aggT Tryz.prog 48 = some false := by kernel_rfl
theorem tinfo_49 : tinfo Tryz.prog 49 = some (1, 8, some Value.nilFunc) := by kernel_rfl
theorem agg_49 : aggT Tryz.prog 49 = some false := by kernel_rfl
theorem tinfo_50 : tinfo Tryz.prog 50 = some (1, 8, some Value.nilFunc) := by kernel_rfl
theorem agg_50 : aggT Tryz.prog 50 = some false := by kernel_rfl
theorem tinfo_51 : tinfo Tryz.prog 51 = some (1, 24, some (Value.slice none 0 0)) := by kernel_rfl
theorem agg_51 : aggT Tryz.prog 51 = some false := by kernel_rfl
theorem tinfo_52 : tinfo Tryz.prog 52 = some (2, 48, some (Value.agg (List.toArray [Value.slice none 0 0, Value.slice none 0 0]))) := by kernel_rfl
theorem agg_52 : aggT Tryz.prog 52 = some true := by kernel_rfl
theorem tinfo_53 : tinfo Tryz.prog 53 = some (2, 48, some (Value.agg (List.toArray [Value.slice none 0 0, Value.slice none 0 0]))) := by kernel_rfl
theorem agg_53 : aggT Tryz.prog 53 = some true := by kernel_rfl
theorem tinfo_54 : tinfo Tryz.prog 54 = some (1, 0, some (Value.tuple (List.toArray [Value.agg (List.toArray [Value.slice none 0 0, Value.slice none 0 0]), Value.int IntKind.i64 (0)]))) := by kernel_rfl
theorem agg_54 : aggT Tryz.prog 54 = some false := by kernel_rfl
theorem tinfo_55 : tinfo Tryz.prog 55 = some (1, 8, some Value.nilFunc) := by kernel_rfl
theorem agg_55 : aggT Tryz.prog 55 = some false := by kernel_rfl
theorem tinfo_56 : tinfo Tryz.prog 56 = some (1, 8, some Value.nilFunc) := by kernel_rfl
theorem agg_56 : aggT Tryz.prog 56 = some false := by kernel_rfl
theorem tinfo_57 : tinfo Tryz.prog 57 = some (1, 24, some (Value.slice none 0 0)) := by kernel_rfl
theorem agg_57 : aggT Tryz.prog 57 = some false := by kernel_rfl
theorem tinfo_58 : tinfo Tryz.prog 58 = some (1, 0, some (Value.tuple (List.toArray [Value.slice none 0 0, Value.int IntKind.i64 (0)]))) := by kernel_rfl
theorem agg_58 : aggT Tryz.prog 58 = some false := by kernel_rfl
theorem tinfo_59 : tinfo Tryz.prog 59 = some (1, 8, some Value.nilFunc) := by kernel_rfl
theorem agg_59 : aggT Tryz.prog 59 = some false := by kernel_rfl
theorem tinfo_60 : tinfo Tryz.prog 60 = some (1, 8, some Value.nilFunc) := by kernel_rfl
theorem agg_60 : aggT Tryz.prog 60 = some false := by kernel_rfl
theorem tinfo_61 : tinfo Tryz.prog 61 = some (1, 8, some Value.nilFunc) := by kernel_rfl
theorem agg_61 : aggT Tryz.prog 61 = some false := by kernel_rfl
theorem tinfo_62 : tinfo Tryz.prog 62 = some (1, 8, some Value.nilFunc) := by kernel_rfl
theorem agg_62 : aggT Tryz.prog 62 = some false := by kernel_rfl
theorem tinfo_63 : tinfo Tryz.prog 63 = some (3, 56, some (Value.agg (List.toArray [Value.slice none 0 0, Value.int IntKind.i64 (0), Value.slice none 0 0]))) := by kernel_rfl
theorem agg_63 : aggT Tryz.prog 63 = some true := by kernel_rfl
theorem tinfo_64 : tinfo Tryz.prog 64 = some (3, 56, some (Value.agg (List.toArray [Value.slice none 0 0, Value.int IntKind.i64 (0), Value.slice none 0 0]))) := by kernel_rfl
theorem agg_64 : aggT Tryz.prog 64 = some true := by kernel_rfl
theorem tinfo_65 : tinfo Tryz.prog 65 = some (1, 8, some Value.nilFunc) := by kernel_rfl
theorem agg_65 : aggT Tryz.prog 65 = some false := by kernel_rfl
theorem tinfo_66 : tinfo Tryz.prog 66 = some (1, 8, some Value.nilFunc) := by kernel_rfl
theorem agg_66 : aggT Tryz.prog 66 = some false := by kernel_rfl
theorem tinfo_67 : tinfo Tryz.prog 67 = some (1, 24, some (Value.slice none 0 0)) := by kernel_rfl
theorem agg_67 : aggT Tryz.prog 67 = some false := by kernel_rfl
theorem tinfo_68 : tinfo Tryz.prog 68 = some (1, 0, some (Value.tuple (List.toArray [Value.agg (List.toArray [Value.int IntKind.i64 (0), Value.slice none 0 0]), Value.slice none 0 0]))) := by kernel_rfl
theorem agg_68 : aggT Tryz.prog 68 = some false := by kernel_rfl
theorem tinfo_69 : tinfo Tryz.prog 69 = some (1, 8, some Value.nilFunc) := by kernel_rfl
theorem agg_69 : aggT Tryz.prog 69 = some false := by kernel_rfl
theorem tinfo_70 : tinfo Tryz.prog 70 = some (3, 40, some (Value.agg (List.toArray [Value.int IntKind.i64 (0), Value.int IntKind.i64 (0), Value.slice none 0 0]))) := by kernel_rfl
theorem agg_70 : aggT Tryz.prog 70 = some true := by kernel_rfl
theorem tinfo_71 : tinfo Tryz.prog 71 = some (3, 40, some (Value.agg (List.toArray [Value.int IntKind.i64 (0), Value.int IntKind.i64 (0), Value.slice none 0 0]))) := by kernel_rfl
theorem agg_71 : aggT Tryz.prog 71 = some true := by kernel_rfl
theorem tinfo_72 : tinfo Tryz.prog 72 = some (1, 0, some (Value.tuple (List.toArray [Value.bool false, Value.int IntKind.i64 (0)]))) := by kernel_rfl
theorem agg_72 : aggT Tryz.prog 72 = some false := by kernel_rfl
theorem tinfo_73 : tinfo Tryz.prog 73 = some (1, 8, some Value.nilFunc) := by kernel_rfl
theorem agg_73 : aggT Tryz.prog 73 = some false := by kernel_rfl
theorem tinfo_74 : tinfo Tryz.prog 74 = some (1, 0, some (Value.tuple (List.toArray [Value.agg (List.toArray [Value.slice none 0 0, Value.int IntKind.i64 (0), Value.slice none 0 0]), Value.bool false, Value.int IntKind.i64 (0)]))) := by kernel_rfl
theorem agg_74 : aggT Tryz.prog 74 = some false := by kernel_rfl
theorem tinfo_75 : tinfo Tryz.prog 75 = some (1, 8, some Value.nilFunc) := by kernel_rfl
theorem agg_75 : aggT Tryz.prog 75 = some false := by kernel_rfl
theorem tinfo_76 : tinfo Tryz.prog 76 = some (1, 8, some Value.nilFunc) := by kernel_rfl
theorem agg_76 : aggT Tryz.prog 76 = some false := by kernel_rfl
theorem tinfo_77 : tinfo Tryz.prog 77 = some (1, 8, some Value.nilFunc) := by kernel_rfl
theorem agg_77 : aggT Tryz.prog 77 = some false := by kernel_rfl
theorem tinfo_78 : tinfo Tryz.prog 78 = some (1, 8, some Value.nilFunc) := by kernel_rfl
theorem agg_78 : aggT Tryz.prog 78 = some false := by kernel_rfl
theorem tinfo_79 : tinfo Tryz.prog 79 = some (1, 24, some (Value.slice none 0 0)) := by kernel_rfl
theorem agg_79 : aggT Tryz.prog 79 = some false := by kernel_rfl
theorem tinfo_80 : tinfo Tryz.prog 80 = some (1, 8, some Value.nilFunc) := by kernel_rfl
theorem agg_80 : aggT Tryz.prog 80 = some false := by kernel_rfl
theorem tinfo_81 : tinfo Tryz.prog 81 = some (1, 8, some Value.nilFunc) := by kernel_rfl
theorem agg_81 : aggT Tryz.prog 81 = some false := by kernel_rfl
theorem tinfo_82 : tinfo Tryz.prog 82 = some (2, 16, some (Value.agg (List.toArray [Value.int IntKind.i64 (0), Value.int IntKind.i64 (0)]))) := by kernel_rfl
theorem agg_82 : aggT Tryz.prog 82 = some true := by kernel_rfl
theorem tinfo_83 : tinfo Tryz.prog 83 = some (1, 24, some (Value.slice none 0 0)) := by kernel_rfl
theorem agg_83 : aggT Tryz.prog 83 = some false := by kernel_rfl
theorem tinfo_84 : tinfo Tryz.prog 84 = some (1, 8, some Value.nilFunc) := by kernel_rfl
theorem agg_84 : aggT Tryz.prog 84 = some false := by kernel_rfl
theorem tinfo_85 : tinfo Tryz.prog 85 = some (1, 8, some Value.nilFunc) := by kernel_rfl
theorem agg_85 : aggT Tryz.prog 85 = some false := by kernel_rfl
theorem tinfo_86 : tinfo Tryz.prog 86 = some (1, 2, some (Value.int IntKind.u16 (0))) := by kernel_rfl
theorem agg_86 : aggT Tryz.prog 86 = some false := by kernel_rfl
theorem tinfo_87 : tinfo Tryz.prog 87 = some (1, 0, some (Value.tuple (List.toArray [Value.slice none 0 0, Value.int IntKind.i64 (0), Value.bool false]))) := by kernel_rfl
theorem agg_87 : aggT Tryz.prog 87 = some false := by kernel_rfl
theorem tinfo_88 : tinfo Tryz.prog 88 = some (1, 8, some Value.nilFunc) := by kernel_rfl
theorem agg_88 : aggT Tryz.prog 88 = some false := by kernel_rfl
theorem tinfo_89 : tinfo Tryz.prog 89 = some (1, 8, some Value.nilFunc) := by kernel_rfl
theorem agg_89 : aggT Tryz.prog 89 = some false := by kernel_rfl
theorem tinfo_90 : tinfo Tryz.prog 90 = some (1, 24, some (Value.slice none 0 0)) := by kernel_rfl
theorem agg_90 : aggT Tryz.prog 90 = some false := by kernel_rfl
theorem tinfo_91 : tinfo Tryz.prog 91 = some (1, 8, some Value.nilFunc) := by kernel_rfl
theorem agg_91 : aggT Tryz.prog 91 = some false := by kernel_rfl
theorem tinfo_92 : tinfo Tryz.prog 92 = some (1, 8, some Value.nilFunc) := by kernel_rfl
theorem agg_92 : aggT Tryz.prog 92 = some false := by kernel_rfl
theorem tinfo_93 : tinfo Tryz.prog 93 = some (1, 8, some Value.nilFunc) := by kernel_rfl
theorem agg_93 : aggT Tryz.prog 93 = some false := by kernel_rfl
theorem tinfo_94 : tinfo Tryz.prog 94 = some (1, 24, some (Value.slice none 0 0)) := by kernel_rfl
theorem agg_94 : aggT Tryz.prog 94 = some false := by kernel_rfl
theorem tinfo_95 : tinfo Tryz.prog 95 = some (14, 232, some (Value.agg (List.toArray [Value.string (ByteArray.mk (List.toArray [])), Value.int IntKind.i64 (0), Value.int IntKind.i64 (0), Value.slice none 0 0, Value.slice none 0 0, Value.slice none 0 0, Value.int IntKind.i64 (0), Value.int IntKind.i64 (0), Value.int IntKind.i64 (0), Value.slice none 0 0, Value.slice none 0 0, Value.slice none 0 0, Value.slice none 0 0, Value.int IntKind.i64 (0)]))) := by kernel_rfl
theorem agg_95 : aggT Tryz.prog 95 = some true := by kernel_rfl
theorem tinfo_96 : tinfo Tryz.prog 96 = some (14, 232, some (Value.agg (List.toArray [Value.string (ByteArray.mk (List.toArray [])), Value.int IntKind.i64 (0), Value.int IntKind.i64 (0), Value.slice none 0 0, Value.slice none 0 0, Value.slice none 0 0, Value.int IntKind.i64 (0), Value.int IntKind.i64 (0), Value.int IntKind.i64 (0), Value.slice none 0 0, Value.slice none 0 0, Value.slice none 0 0, Value.slice none 0 0, Value.int IntKind.i64 (0)]))) := by kernel_rfl
theorem agg_96 : aggT Tryz.prog 96 = some true := by kernel_rfl
theorem tinfo_97 : tinfo Tryz.prog 97 = some (2, 32, some (Value.agg (List.toArray [Value.slice none 0 0, Value.int IntKind.i64 (0)]))) := by kernel_rfl
theorem agg_97 : aggT Tryz.prog 97 = some true := by kernel_rfl
theorem tinfo_98 : tinfo Tryz.prog 98 = some (2, 32, some (Value.agg (List.toArray [Value.slice none 0 0, Value.int IntKind.i64 (0)]))) := by kernel_rfl
theorem agg_98 : aggT Tryz.prog 98 = some true := by kernel_rfl
theorem tinfo_99 : tinfo Tryz.prog 99 = some (1, 8, some Value.nilFunc) := by kernel_rfl
theorem agg_99 : aggT Tryz.prog 99 = some false := by kernel_rfl
theorem tinfo_100 : tinfo Tryz.prog 100 = some (1, 0, some (Value.tuple (List.toArray [Value.slice none 0 0, Value.slice none 0 0, Value.int IntKind.i64 (0)]))) := by kernel_rfl
theorem agg_100 : aggT Tryz.prog 100 = some false := by kernel_rfl
theorem tinfo_101 : tinfo Tryz.prog 101 = some (1, 8, some Value.nilFunc) := by kernel_rfl
theorem agg_101 : aggT Tryz.prog 101 = some false := by kernel_rfl
theorem tinfo_102 : tinfo Tryz.prog 102 = some (2, 48, some (Value.agg (List.toArray [Value.slice none 0 0, Value.slice none 0 0]))) := by kernel_rfl
theorem agg_102 : aggT Tryz.prog 102 = some true := by kernel_rfl
theorem tinfo_103 : tinfo Tryz.prog 103 = some (2, 48, some (Value.agg (List.toArray [Value.slice none 0 0, Value.slice none 0 0]))) := by kernel_rfl
theorem agg_103 : aggT Tryz.prog 103 = some true := by kernel_rfl
theorem tinfo_104 : tinfo Tryz.prog 104 = some (1, 0, some (Value.tuple (List.toArray [Value.agg (List.toArray [Value.slice none 0 0, Value.slice none 0 0]), Value.int IntKind.i64 (0)]))) := by kernel_rfl
theorem agg_104 : aggT Tryz.prog 104 = some false := by kernel_rfl
theorem tinfo_105 : tinfo Tryz.prog 105 = some (1, 8, some Value.nilFunc) := by kernel_rfl
theorem agg_105 : aggT Tryz.prog 105 = some false := by kernel_rfl
theorem tinfo_106 : tinfo Tryz.prog 106 = some (1, 0, some (Value.tuple (List.toArray [Value.int IntKind.i64 (0), Value.bool false]))) := by kernel_rfl
theorem agg_106 : aggT Tryz.prog 106 = some false := by kernel_rfl
theorem tinfo_107 : tinfo Tryz.prog 107 = some (1, 8, some Value.nilFunc) := by kernel_rfl
theorem agg_107 : aggT Tryz.prog 107 = some false := by kernel_rfl
theorem tinfo_108 : tinfo Tryz.prog 108 = some (1, 8, some Value.nilFunc) := by kernel_rfl
theorem agg_108 : aggT Tryz.prog 108 = some false := by kernel_rfl
theorem tinfo_109 : tinfo Tryz.prog 109 = some (1, 8, some Value.nilFunc) := by kernel_rfl
theorem agg_109 : aggT Tryz.prog 109 = some false := by kernel_rfl
theorem tinfo_110 : tinfo Tryz.prog 110 = some (1, 8, some Value.nilFunc) := by kernel_rfl
theorem agg_110 : aggT Tryz.prog 110 = some false := by kernel_rfl
theorem tinfo_111 : tinfo Tryz.prog 111 = some (1, 8, some Value.nilFunc) := by kernel_rfl
theorem agg_111 : aggT Tryz.prog 111 = some false := by kernel_rfl
theorem tinfo_112 : tinfo Tryz.prog 112 = some (1, 0, some (Value.tuple (List.toArray [Value.agg (List.toArray [Value.int IntKind.i64 (0), Value.slice none 0 0]), Value.int IntKind.i64 (0)]))) := by kernel_rfl
theorem agg_112 : aggT Tryz.prog 112 = some false := by kernel_rfl
theorem tinfo_113 : tinfo Tryz.prog 113 = some (1, 8, some Value.nilFunc) := by kernel_rfl
theorem agg_113 : aggT Tryz.prog 113 = some false := by kernel_rfl
theorem tinfo_114 : tinfo Tryz.prog 114 = some (1, 8, some Value.nilFunc) := by kernel_rfl
theorem agg_114 : aggT Tryz.prog 114 = some false := by kernel_rfl
theorem tinfo_115 : tinfo Tryz.prog 115 = some (1, 8, some Value.nilFunc) := by kernel_rfl
theorem agg_115 : aggT Tryz.prog 115 = some false := by kernel_rfl
theorem tinfo_116 : tinfo Tryz.prog 116 = some (1, 8, some Value.nilFunc) := by kernel_rfl
theorem agg_116 : aggT Tryz.prog 116 = some false := by kernel_rfl
theorem tinfo_117 : tinfo Tryz.prog 117 = some (1, 0, some (Value.tuple (List.toArray [Value.slice none 0 0, Value.bool false]))) := by kernel_rfl
theorem agg_117 : aggT Tryz.prog 117 = some false := by kernel_rfl
theorem tinfo_118 : tinfo Tryz.prog 118 = some (1, 8, some Value.nilFunc) := by kernel_rfl
theorem agg_118 : aggT Tryz.prog 118 = some false := by kernel_rfl
theorem tinfo_119 : tinfo Tryz.prog 119 = some (1, 8, some Value.nilFunc) := by kernel_rfl
theorem agg_119 : aggT Tryz.prog 119 = some false := by kernel_rfl
theorem tinfo_120 : tinfo Tryz.prog 120 = some (1, 8, some Value.nilFunc) := by kernel_rfl
theorem agg_120 : aggT Tryz.prog 120 = some false := by kernel_rfl
theorem tinfo_121 : tinfo Tryz.prog 121 = some (1, 8, some Value.nilFunc) := by kernel_rfl
theorem agg_121 : aggT Tryz.prog 121 = some false := by kernel_rfl
theorem tinfo_122 : tinfo Tryz.prog 122 = some (1, 8, some Value.nilFunc) := by kernel_rfl
theorem agg_122 : aggT Tryz.prog 122 = some false := by kernel_rfl
theorem tinfo_123 : tinfo Tryz.prog 123 = some (1, 8, some Value.nilFunc) := by kernel_rfl
theorem agg_123 : aggT Tryz.prog 123 = some false := by kernel_rfl
theorem tinfo_124 : tinfo Tryz.prog 124 = some (1, 8, some Value.nilFunc) := by kernel_rfl
theorem agg_124 : aggT Tryz.prog 124 = some false := by kernel_rfl
theorem tinfo_125 : tinfo Tryz.prog 125 = some (1, 24, some (Value.slice none 0 0)) := by kernel_rfl
theorem agg_125 : aggT Tryz.prog 125 = some false := by kernel_rfl
theorem tinfo_126 : tinfo Tryz.prog 126 = some (4, 64, some (Value.agg (List.toArray [Value.int IntKind.i64 (0), Value.int IntKind.i64 (0), Value.slice none 0 0, Value.slice none 0 0]))) := by kernel_rfl
theorem agg_126 : aggT Tryz.prog 126 = some true := by kernel_rfl
theorem tinfo_127 : tinfo Tryz.prog 127 = some (4, 64, some (Value.agg (List.toArray [Value.int IntKind.i64 (0), Value.int IntKind.i64 (0), Value.slice none 0 0, Value.slice none 0 0]))) := by kernel_rfl
theorem agg_127 : aggT Tryz.prog 127 = some true := by kernel_rfl
theorem tinfo_128 : tinfo Tryz.prog 128 = some (1, 8, some Value.nilFunc) := by kernel_rfl
theorem agg_128 : aggT Tryz.prog 128 = some false := by kernel_rfl
theorem tinfo_129 : tinfo Tryz.prog 129 = some (1, 0, some (Value.tuple (List.toArray [Value.slice none 0 0, Value.int IntKind.i64 (0)]))) := by kernel_rfl
theorem agg_129 : aggT Tryz.prog 129 = some false := by kernel_rfl
theorem tinfo_130 : tinfo Tryz.prog 130 = some (1, 8, some Value.nilFunc) := by kernel_rfl
theorem agg_130 : aggT Tryz.prog 130 = some false := by kernel_rfl
theorem tinfo_131 : tinfo Tryz.prog 131 = some (1, 8, some Value.nilFunc) := by kernel_rfl
theorem agg_131 : aggT Tryz.prog 131 = some false := by kernel_rfl
theorem tinfo_132 : tinfo Tryz.prog 132 = some (1, 8, some Value.nilFunc) := by kernel_rfl
theorem agg_132 : aggT Tryz.prog 132 = some false := by kernel_rfl
theorem tinfo_133 : tinfo Tryz.prog 133 = some (1, 8, some (Value.pointer none)) := by kernel_rfl
theorem agg_133 : aggT Tryz.prog 133 = some false := by kernel_rfl
theorem tinfo_134 : tinfo Tryz.prog 134 = some (1, 8, some Value.nilFunc) := by kernel_rfl
theorem agg_134 : aggT Tryz.prog 134 = some false := by kernel_rfl
theorem tinfo_135 : tinfo Tryz.prog 135 = some (13, 232, some (Value.agg (List.toArray [Value.int IntKind.i64 (0), Value.slice none 0 0, Value.slice none 0 0, Value.slice none 0 0, Value.slice none 0 0, Value.int IntKind.i64 (0), Value.int IntKind.i64 (0), Value.slice none 0 0, Value.int IntKind.i64 (0), Value.slice none 0 0, Value.slice none 0 0, Value.int IntKind.i64 (0), Value.slice none 0 0]))) := by kernel_rfl
theorem agg_135 : aggT Tryz.prog 135 = some true := by kernel_rfl
theorem tinfo_136 : tinfo Tryz.prog 136 = some (13, 232, some (Value.agg (List.toArray [Value.int IntKind.i64 (0), Value.slice none 0 0, Value.slice none 0 0, Value.slice none 0 0, Value.slice none 0 0, Value.int IntKind.i64 (0), Value.int IntKind.i64 (0), Value.slice none 0 0, Value.int IntKind.i64 (0), Value.slice none 0 0, Value.slice none 0 0, Value.int IntKind.i64 (0), Value.slice none 0 0]))) := by kernel_rfl
theorem agg_136 : aggT Tryz.prog 136 = some true := by kernel_rfl
theorem tinfo_137 : tinfo Tryz.prog 137 = some (1, 0, some (Value.tuple (List.toArray [Value.bool false, Value.bool false]))) := by kernel_rfl
theorem agg_137 : aggT Tryz.prog 137 = some false := by kernel_rfl
theorem tinfo_138 : tinfo Tryz.prog 138 = some (1, 8, some Value.nilFunc) := by kernel_rfl
theorem agg_138 : aggT Tryz.prog 138 = some false := by kernel_rfl
theorem tinfo_139 : tinfo Tryz.prog 139 = some (1, 8, some Value.nilFunc) := by kernel_rfl
theorem agg_139 : aggT Tryz.prog 139 = some false := by kernel_rfl
theorem tinfo_140 : tinfo Tryz.prog 140 = some (1, 8, some Value.nilFunc) := by kernel_rfl
theorem agg_140 : aggT Tryz.prog 140 = some false := by kernel_rfl
theorem tinfo_141 : tinfo Tryz.prog 141 = some (1, 8, some Value.nilFunc) := by kernel_rfl
theorem agg_141 : aggT Tryz.prog 141 = some false := by kernel_rfl
theorem tinfo_142 : tinfo Tryz.prog 142 = some (1, 8, some Value.nilFunc) := by kernel_rfl
theorem agg_142 : aggT Tryz.prog 142 = some false := by kernel_rfl
theorem tinfo_143 : tinfo Tryz.prog 143 = some (1, 8, some Value.nilFunc) := by kernel_rfl
theorem agg_143 : aggT Tryz.prog 143 = some false := by kernel_rfl
theorem tinfo_144 : tinfo Tryz.prog 144 = some (1, 8, some Value.nilFunc) := by kernel_rfl
theorem agg_144 : aggT Tryz.prog 144 = some false := by kernel_rfl
theorem tinfo_145 : tinfo Tryz.prog 145 = some (1, 8, some Value.nilFunc) := by kernel_rfl
theorem agg_145 : aggT Tryz.prog 145 = some false := by kernel_rfl
theorem tinfo_146 : tinfo Tryz.prog 146 = some (1, 0, some (Value.tuple (List.toArray [Value.agg (List.toArray [Value.int IntKind.i64 (0), Value.int IntKind.i64 (0), Value.slice none 0 0, Value.slice none 0 0]), Value.int IntKind.i64 (0)]))) := by kernel_rfl
theorem agg_146 : aggT Tryz.prog 146 = some false := by kernel_rfl
theorem tinfo_147 : tinfo Tryz.prog 147 = some (1, 8, some Value.nilFunc) := by kernel_rfl
theorem agg_147 : aggT Tryz.prog 147 = some false := by kernel_rfl
theorem tinfo_148 : tinfo Tryz.prog 148 = some (1, 24, some (Value.slice none 0 0)) := by kernel_rfl
theorem agg_148 : aggT Tryz.prog 148 = some false := by kernel_rfl
theorem tinfo_149 : tinfo Tryz.prog 149 = some (1, 8, some Value.nilFunc) := by kernel_rfl
theorem agg_149 : aggT Tryz.prog 149 = some false := by kernel_rfl
theorem tinfo_150 : tinfo Tryz.prog 150 = some (1, 8, some Value.nilFunc) := by kernel_rfl
theorem agg_150 : aggT Tryz.prog 150 = some false := by kernel_rfl
theorem tinfo_151 : tinfo Tryz.prog 151 = some (1, 8, some Value.nilFunc) := by kernel_rfl
theorem agg_151 : aggT Tryz.prog 151 = some false := by kernel_rfl
theorem tinfo_152 : tinfo Tryz.prog 152 = some (1, 8, some Value.nilFunc) := by kernel_rfl
theorem agg_152 : aggT Tryz.prog 152 = some false := by kernel_rfl
theorem tinfo_153 : tinfo Tryz.prog 153 = some (1, 8, some Value.nilFunc) := by kernel_rfl
theorem agg_153 : aggT Tryz.prog 153 = some false := by kernel_rfl
theorem tinfo_154 : tinfo Tryz.prog 154 = some (1, 8, some Value.nilFunc) := by kernel_rfl
theorem agg_154 : aggT Tryz.prog 154 = some false := by kernel_rfl
theorem tinfo_155 : tinfo Tryz.prog 155 = some (1, 8, some Value.nilFunc) := by kernel_rfl
theorem agg_155 : aggT Tryz.prog 155 = some false := by kernel_rfl
theorem tinfo_156 : tinfo Tryz.prog 156 = some (1, 8, some Value.nilFunc) := by kernel_rfl
theorem agg_156 : aggT Tryz.prog 156 = some false := by kernel_rfl
theorem tinfo_157 : tinfo Tryz.prog 157 = some (1, 8, some Value.nilFunc) := by kernel_rfl
theorem agg_157 : aggT Tryz.prog 157 = some false := by kernel_rfl
theorem tinfo_158 : tinfo Tryz.prog 158 = some (1, 8, some Value.nilFunc) := by kernel_rfl
theorem agg_158 : aggT Tryz.prog 158 = some false := by kernel_rfl
theorem tinfo_159 : tinfo Tryz.prog 159 = some (1, 8, some Value.nilFunc) := by kernel_rfl
theorem agg_159 : aggT Tryz.prog 159 = some false := by kernel_rfl
theorem tinfo_160 : tinfo Tryz.prog 160 = some (1, 8, some Value.nilFunc) := by kernel_rfl
theorem agg_160 : aggT Tryz.prog 160 = some false := by kernel_rfl
theorem tinfo_161 : tinfo Tryz.prog 161 = some (1, 8, some Value.nilFunc) := by kernel_rfl
theorem agg_161 : aggT Tryz.prog 161 = some false := by kernel_rfl
theorem tinfo_162 : tinfo Tryz.prog 162 = some (1, 8, some Value.nilFunc) := by kernel_rfl
theorem agg_162 : aggT Tryz.prog 162 = some false := by kernel_rfl
theorem tinfo_163 : tinfo Tryz.prog 163 = some (1, 8, some Value.nilFunc) := by kernel_rfl
theorem agg_163 : aggT Tryz.prog 163 = some false := by kernel_rfl
theorem tinfo_164 : tinfo Tryz.prog 164 = some (1, 8, some Value.nilFunc) := by kernel_rfl
theorem agg_164 : aggT Tryz.prog 164 = some false := by kernel_rfl
theorem tinfo_165 : tinfo Tryz.prog 165 = some (1, 8, some Value.nilFunc) := by kernel_rfl
theorem agg_165 : aggT Tryz.prog 165 = some false := by kernel_rfl
theorem tinfo_166 : tinfo Tryz.prog 166 = some (1, 8, some Value.nilFunc) := by kernel_rfl
theorem agg_166 : aggT Tryz.prog 166 = some false := by kernel_rfl
theorem tinfo_167 : tinfo Tryz.prog 167 = some (1, 8, some Value.nilFunc) := by kernel_rfl
theorem agg_167 : aggT Tryz.prog 167 = some false := by kernel_rfl
theorem tinfo_168 : tinfo Tryz.prog 168 = some (1, 8, some (Value.int IntKind.u64 (0))) := by kernel_rfl
theorem agg_168 : aggT Tryz.prog 168 = some false := by kernel_rfl
theorem tinfo_169 : tinfo Tryz.prog 169 = some (1, 0, some (Value.tuple (List.toArray [Value.int IntKind.u64 (0), Value.int IntKind.u64 (0)]))) := by kernel_rfl
theorem agg_169 : aggT Tryz.prog 169 = some false := by kernel_rfl
theorem tinfo_170 : tinfo Tryz.prog 170 = some (1, 8, some Value.nilFunc) := by kernel_rfl
theorem agg_170 : aggT Tryz.prog 170 = some false := by kernel_rfl
theorem tinfo_171 : tinfo Tryz.prog 171 = some (1, 8, some Value.nilFunc) := by kernel_rfl
theorem agg_171 : aggT Tryz.prog 171 = some false := by kernel_rfl
theorem tinfo_172 : tinfo Tryz.prog 172 = some (3, 24, some (Value.agg (List.toArray [Value.int IntKind.i64 (0), Value.int IntKind.i64 (0), Value.int IntKind.i64 (0)]))) := by kernel_rfl
theorem agg_172 : aggT Tryz.prog 172 = some true := by kernel_rfl
theorem tinfo_173 : tinfo Tryz.prog 173 = some (3, 24, some (Value.agg (List.toArray [Value.int IntKind.i64 (0), Value.int IntKind.i64 (0), Value.int IntKind.i64 (0)]))) := by kernel_rfl
theorem agg_173 : aggT Tryz.prog 173 = some true := by kernel_rfl
theorem tinfo_174 : tinfo Tryz.prog 174 = some (1, 8, some Value.nilFunc) := by kernel_rfl
theorem agg_174 : aggT Tryz.prog 174 = some false := by kernel_rfl
theorem tinfo_175 : tinfo Tryz.prog 175 = some (1, 8, some Value.nilFunc) := by kernel_rfl
theorem agg_175 : aggT Tryz.prog 175 = some false := by kernel_rfl
theorem tinfo_176 : tinfo Tryz.prog 176 = some (1, 8, some Value.nilFunc) := by kernel_rfl
theorem agg_176 : aggT Tryz.prog 176 = some false := by kernel_rfl
theorem tinfo_177 : tinfo Tryz.prog 177 = some (1, 8, some Value.nilFunc) := by kernel_rfl
theorem agg_177 : aggT Tryz.prog 177 = some false := by kernel_rfl
theorem tinfo_178 : tinfo Tryz.prog 178 = some (1, 8, some Value.nilFunc) := by kernel_rfl
theorem agg_178 : aggT Tryz.prog 178 = some false := by kernel_rfl
theorem tinfo_179 : tinfo Tryz.prog 179 = some (1, 8, some Value.nilFunc) := by kernel_rfl
theorem agg_179 : aggT Tryz.prog 179 = some false := by kernel_rfl
theorem tinfo_180 : tinfo Tryz.prog 180 = some (1, 8, some Value.nilFunc) := by kernel_rfl
theorem agg_180 : aggT Tryz.prog 180 = some false := by kernel_rfl
theorem tinfo_181 : tinfo Tryz.prog 181 = some (1, 8, some Value.nilFunc) := by kernel_rfl
theorem agg_181 : aggT Tryz.prog 181 = some false := by kernel_rfl
theorem tinfo_182 : tinfo Tryz.prog 182 = some (1, 8, some Value.nilFunc) := by kernel_rfl
theorem agg_182 : aggT Tryz.prog 182 = some false := by kernel_rfl
theorem tinfo_183 : tinfo Tryz.prog 183 = some (1, 8, some Value.nilFunc) := by kernel_rfl
theorem agg_183 : aggT Tryz.prog 183 = some false := by kernel_rfl
theorem tinfo_184 : tinfo Tryz.prog 184 = some (1, 8, some Value.nilFunc) := by kernel_rfl
theorem agg_184 : aggT Tryz.prog 184 = some false := by kernel_rfl
theorem tinfo_185 : tinfo Tryz.prog 185 = some (1, 8, some Value.nilFunc) := by kernel_rfl
theorem agg_185 : aggT Tryz.prog 185 = some false := by kernel_rfl
theorem tinfo_186 : tinfo Tryz.prog 186 = some (1, 8, some Value.nilFunc) := by kernel_rfl
theorem agg_186 : aggT Tryz.prog 186 = some false := by kernel_rfl
theorem tinfo_187 : tinfo Tryz.prog 187 = some (1, 8, some Value.nilFunc) := by kernel_rfl
theorem agg_187 : aggT Tryz.prog 187 = some false := by kernel_rfl
theorem tinfo_188 : tinfo Tryz.prog 188 = some (1, 8, some Value.nilFunc) := by kernel_rfl
theorem agg_188 : aggT Tryz.prog 188 = some false := by kernel_rfl
theorem tinfo_189 : tinfo Tryz.prog 189 = some (1, 8, some Value.nilFunc) := by kernel_rfl
theorem agg_189 : aggT Tryz.prog 189 = some false := by kernel_rfl
theorem tinfo_190 : tinfo Tryz.prog 190 = some (1, 8, some Value.nilFunc) := by kernel_rfl
theorem agg_190 : aggT Tryz.prog 190 = some false := by kernel_rfl
theorem tinfo_191 : tinfo Tryz.prog 191 = some (1, 8, some Value.nilFunc) := by kernel_rfl
theorem agg_191 : aggT Tryz.prog 191 = some false := by kernel_rfl
theorem tinfo_192 : tinfo Tryz.prog 192 = some (1, 8, some Value.nilFunc) := by kernel_rfl
theorem agg_192 : aggT Tryz.prog 192 = some false := by kernel_rfl
theorem tinfo_193 : tinfo Tryz.prog 193 = some (1, 8, some Value.nilFunc) := by kernel_rfl
theorem agg_193 : aggT Tryz.prog 193 = some false := by kernel_rfl
theorem tinfo_194 : tinfo Tryz.prog 194 = some (1, 8, some Value.nilFunc) := by kernel_rfl
theorem agg_194 : aggT Tryz.prog 194 = some false := by kernel_rfl
theorem tinfo_195 : tinfo Tryz.prog 195 = some (1, 8, some Value.nilFunc) := by kernel_rfl
theorem agg_195 : aggT Tryz.prog 195 = some false := by kernel_rfl
theorem tinfo_196 : tinfo Tryz.prog 196 = some (1, 8, some Value.nilFunc) := by kernel_rfl
theorem agg_196 : aggT Tryz.prog 196 = some false := by kernel_rfl
theorem tinfo_197 : tinfo Tryz.prog 197 = some (1, 4, some (Value.int IntKind.u32 (0))) := by kernel_rfl
theorem agg_197 : aggT Tryz.prog 197 = some false := by kernel_rfl
theorem tinfo_198 : tinfo Tryz.prog 198 = some (1, 0, some (Value.tuple (List.toArray [Value.int IntKind.u32 (0), Value.int IntKind.u32 (0)]))) := by kernel_rfl
theorem agg_198 : aggT Tryz.prog 198 = some false := by kernel_rfl
theorem tinfo_199 : tinfo Tryz.prog 199 = some (1, 8, some Value.nilFunc) := by kernel_rfl
theorem agg_199 : aggT Tryz.prog 199 = some false := by kernel_rfl
theorem tinfo_200 : tinfo Tryz.prog 200 = some (1, 8, some (Value.int IntKind.u64 (0))) := by kernel_rfl
theorem agg_200 : aggT Tryz.prog 200 = some false := by kernel_rfl
theorem tinfo_201 : tinfo Tryz.prog 201 = some (1, 0, some (Value.tuple (List.toArray [Value.int IntKind.u64 (0), Value.int IntKind.u64 (0)]))) := by kernel_rfl
theorem agg_201 : aggT Tryz.prog 201 = some false := by kernel_rfl
theorem tinfo_202 : tinfo Tryz.prog 202 = some (1, 8, some Value.nilFunc) := by kernel_rfl
theorem agg_202 : aggT Tryz.prog 202 = some false := by kernel_rfl
theorem tinfo_203 : tinfo Tryz.prog 203 = some (1, 8, some (Value.pointer none)) := by kernel_rfl
theorem agg_203 : aggT Tryz.prog 203 = some false := by kernel_rfl
theorem tinfo_204 : tinfo Tryz.prog 204 = some (8, 64, some (Value.agg (List.toArray [Value.int IntKind.i64 (0), Value.int IntKind.i64 (0), Value.int IntKind.i64 (0), Value.int IntKind.i64 (0), Value.int IntKind.i64 (0), Value.int IntKind.i64 (0), Value.int IntKind.i64 (0), Value.int IntKind.i64 (0)]))) := by kernel_rfl
theorem agg_204 : aggT Tryz.prog 204 = some true := by kernel_rfl
theorem tinfo_205 : tinfo Tryz.prog 205 = some (8, 64, some (Value.agg (List.toArray [Value.int IntKind.i64 (0), Value.int IntKind.i64 (0), Value.int IntKind.i64 (0), Value.int IntKind.i64 (0), Value.int IntKind.i64 (0), Value.int IntKind.i64 (0), Value.int IntKind.i64 (0), Value.int IntKind.i64 (0)]))) := by kernel_rfl
theorem agg_205 : aggT Tryz.prog 205 = some true := by kernel_rfl
theorem tinfo_206 : tinfo Tryz.prog 206 = some (1, 8, some Value.nilFunc) := by kernel_rfl
theorem agg_206 : aggT Tryz.prog 206 = some false := by kernel_rfl
theorem tinfo_207 : tinfo Tryz.prog 207 = some (1, 8, some (Value.map none)) := by kernel_rfl
theorem agg_207 : aggT Tryz.prog 207 = some false := by kernel_rfl
theorem tinfo_208 : tinfo Tryz.prog 208 = some (1, 8, some Value.nilFunc) := by kernel_rfl
theorem agg_208 : aggT Tryz.prog 208 = some false := by kernel_rfl
theorem tinfo_209 : tinfo Tryz.prog 209 = some (1, 8, some Value.nilFunc) := by kernel_rfl
theorem agg_209 : aggT Tryz.prog 209 = some false := by kernel_rfl
theorem tinfo_210 : tinfo Tryz.prog 210 = some (1, 8, some Value.nilFunc) := by kernel_rfl
theorem agg_210 : aggT Tryz.prog 210 = some false := by kernel_rfl
theorem tinfo_211 : tinfo Tryz.prog 211 = some (1, 8, some Value.nilFunc) := by kernel_rfl
theorem agg_211 : aggT Tryz.prog 211 = some false := by kernel_rfl
theorem tinfo_212 : tinfo Tryz.prog 212 = some (1, 8, some Value.nilFunc) := by kernel_rfl
theorem agg_212 : aggT Tryz.prog 212 = some false := by kernel_rfl
theorem tinfo_213 : tinfo Tryz.prog 213 = some (1, 8, some Value.nilFunc) := by kernel_rfl
theorem agg_213 : aggT Tryz.prog 213 = some false := by kernel_rfl
theorem tinfo_214 : tinfo Tryz.prog 214 = some (1, 8, some Value.nilFunc) := by kernel_rfl
theorem agg_214 : aggT Tryz.prog 214 = some false := by kernel_rfl
theorem tinfo_215 : tinfo Tryz.prog 215 = some (1, 8, some Value.nilFunc) := by kernel_rfl
theorem agg_215 : aggT Tryz.prog 215 = some false := by kernel_rfl
theorem tinfo_216 : tinfo Tryz.prog 216 = some (1, 8, some Value.nilFunc) := by kernel_rfl
theorem agg_216 : aggT Tryz.prog 216 = some false := by kernel_rfl
theorem tinfo_217 : tinfo Tryz.prog 217 = some (1, 8, some Value.nilFunc) := by kernel_rfl
theorem agg_217 : aggT Tryz.prog 217 = some false := by kernel_rfl
theorem tinfo_218 : tinfo Tryz.prog 218 = some (1, 8, some Value.nilFunc) := by kernel_rfl
theorem agg_218 : aggT Tryz.prog 218 = some false := by kernel_rfl
theorem tinfo_219 : tinfo Tryz.prog 219 = some (1, 24, some (Value.slice none 0 0)) := by kernel_rfl
theorem agg_219 : aggT Tryz.prog 219 = some false := by kernel_rfl
theorem tinfo_220 : tinfo Tryz.prog 220 = some (1, 8, some Value.nilFunc) := by kernel_rfl
theorem agg_220 : aggT Tryz.prog 220 = some false := by kernel_rfl
theorem tinfo_221 : tinfo Tryz.prog 221 = some (1, 8, some Value.nilFunc) := by kernel_rfl
theorem agg_221 : aggT Tryz.prog 221 = some false := by kernel_rfl
theorem tinfo_222 : tinfo Tryz.prog 222 = some (1, 8, some Value.nilFunc) := by kernel_rfl
theorem agg_222 : aggT Tryz.prog 222 = some false := by kernel_rfl
theorem tinfo_223 : tinfo Tryz.prog 223 = some (1, 8, some Value.nilFunc) := by kernel_rfl
theorem agg_223 : aggT Tryz.prog 223 = some false := by kernel_rfl
theorem tinfo_224 : tinfo Tryz.prog 224 = some (1, 8, some Value.nilFunc) := by kernel_rfl
theorem agg_224 : aggT Tryz.prog 224 = some false := by kernel_rfl
theorem tinfo_225 : tinfo Tryz.prog 225 = some (1, 8, some Value.nilFunc) := by kernel_rfl
theorem agg_225 : aggT Tryz.prog 225 = some false := by kernel_rfl
theorem tinfo_226 : tinfo Tryz.prog 226 = some (1, 8, some Value.nilFunc) := by kernel_rfl
theorem agg_226 : aggT Tryz.prog 226 = some false := by kernel_rfl
theorem tinfo_227 : tinfo Tryz.prog 227 = some (1, 8, some Value.nilFunc) := by kernel_rfl
theorem agg_227 : aggT Tryz.prog 227 = some false := by kernel_rfl
theorem tinfo_228 : tinfo Tryz.prog 228 = some (1, 8, some Value.nilFunc) := by kernel_rfl
theorem agg_228 : aggT Tryz.prog 228 = some false := by kernel_rfl
theorem tinfo_229 : tinfo Tryz.prog 229 = some (1, 8, some Value.nilFunc) := by kernel_rfl
theorem agg_229 : aggT Tryz.prog 229 = some false := by kernel_rfl
theorem tinfo_230 : tinfo Tryz.prog 230 = some (1, 8, some Value.nilFunc) := by kernel_rfl
theorem agg_230 : aggT Tryz.prog 230 = some false := by kernel_rfl
theorem tinfo_231 : tinfo Tryz.prog 231 = some (1, 8, some Value.nilFunc) := by kernel_rfl
theorem agg_231 : aggT Tryz.prog 231 = some false := by kernel_rfl
theorem tinfo_232 : tinfo Tryz.prog 232 = some (1, 8, some Value.nilFunc) := by kernel_rfl
theorem agg_232 : aggT Tryz.prog 232 = some false := by kernel_rfl
theorem tinfo_233 : tinfo Tryz.prog 233 = some (1, 8, some Value.nilFunc) := by kernel_rfl
theorem agg_233 : aggT Tryz.prog 233 = some false := by kernel_rfl
theorem tinfo_234 : tinfo Tryz.prog 234 = some (1, 8, some Value.nilFunc) := by kernel_rfl
theorem agg_234 : aggT Tryz.prog 234 = some false := by kernel_rfl
theorem tinfo_235 : tinfo Tryz.prog 235 = some (4, 40, some (Value.agg (List.toArray [Value.pointer none, Value.pointer none, Value.pointer none, Value.string (ByteArray.mk (List.toArray []))]))) := by kernel_rfl
theorem agg_235 : aggT Tryz.prog 235 = some true := by kernel_rfl
theorem tinfo_236 : tinfo Tryz.prog 236 = some (4, 40, some (Value.agg (List.toArray [Value.pointer none, Value.pointer none, Value.pointer none, Value.string (ByteArray.mk (List.toArray []))]))) := by kernel_rfl
theorem agg_236 : aggT Tryz.prog 236 = some true := by kernel_rfl
theorem tinfo_237 : tinfo Tryz.prog 237 = some (0, 0, some (Value.agg (List.toArray []))) := by kernel_rfl
theorem agg_237 : aggT Tryz.prog 237 = some true := by kernel_rfl
theorem tinfo_238 : tinfo Tryz.prog 238 = some (0, 0, some (Value.agg (List.toArray []))) := by kernel_rfl
theorem agg_238 : aggT Tryz.prog 238 = some true := by kernel_rfl
theorem tinfo_239 : tinfo Tryz.prog 239 = some (0, 0, some (Value.agg (List.toArray []))) := by kernel_rfl
theorem agg_239 : aggT Tryz.prog 239 = some true := by kernel_rfl
theorem tinfo_240 : tinfo Tryz.prog 240 = some (1, 8, some Value.nilFunc) := by kernel_rfl
theorem agg_240 : aggT Tryz.prog 240 = some false := by kernel_rfl
theorem tinfo_241 : tinfo Tryz.prog 241 = some (1, 1, some (Value.int IntKind.u8 (0))) := by kernel_rfl
theorem agg_241 : aggT Tryz.prog 241 = some false := by kernel_rfl
theorem tinfo_242 : tinfo Tryz.prog 242 = some (1, 1, some (Value.int IntKind.u8 (0))) := by kernel_rfl
theorem agg_242 : aggT Tryz.prog 242 = some false := by kernel_rfl
theorem tinfo_243 : tinfo Tryz.prog 243 = some (1, 8, some Value.nilFunc) := by kernel_rfl
theorem agg_243 : aggT Tryz.prog 243 = some false := by kernel_rfl
theorem tinfo_244 : tinfo Tryz.prog 244 = some (1, 8, some (Value.pointer none)) := by kernel_rfl
theorem agg_244 : aggT Tryz.prog 244 = some false := by kernel_rfl
theorem tinfo_245 : tinfo Tryz.prog 245 = some (1, 4, some (Value.int IntKind.i32 (0))) := by kernel_rfl
theorem agg_245 : aggT Tryz.prog 245 = some false := by kernel_rfl
theorem tinfo_246 : tinfo Tryz.prog 246 = some (1, 4, some (Value.int IntKind.i32 (0))) := by kernel_rfl
theorem agg_246 : aggT Tryz.prog 246 = some false := by kernel_rfl
theorem tinfo_247 : tinfo Tryz.prog 247 = some (11, 48, some (Value.agg (List.toArray [Value.int IntKind.u64 (0), Value.int IntKind.u64 (0), Value.int IntKind.u32 (0), Value.int IntKind.u8 (0), Value.int IntKind.u8 (0), Value.int IntKind.u8 (0), Value.int IntKind.u8 (0), Value.nilFunc, Value.pointer none, Value.int IntKind.i32 (0), Value.int IntKind.i32 (0)]))) := by kernel_rfl
theorem agg_247 : aggT Tryz.prog 247 = some true := by kernel_rfl
theorem tinfo_248 : tinfo Tryz.prog 248 = some (11, 48, some (Value.agg (List.toArray [Value.int IntKind.u64 (0), Value.int IntKind.u64 (0), Value.int IntKind.u32 (0), Value.int IntKind.u8 (0), Value.int IntKind.u8 (0), Value.int IntKind.u8 (0), Value.int IntKind.u8 (0), Value.nilFunc, Value.pointer none, Value.int IntKind.i32 (0), Value.int IntKind.i32 (0)]))) := by kernel_rfl
theorem agg_248 : aggT Tryz.prog 248 = some true := by kernel_rfl
theorem tinfo_249 : tinfo Tryz.prog 249 = some (1, 8, some (Value.pointer none)) := by kernel_rfl
theorem agg_249 : aggT Tryz.prog 249 = some false := by kernel_rfl
theorem places_7 : placesOf Tryz.prog 7 = some [(0, 1), (1, 1), (2, 1), (3, 1)] := by kernel_rfl
theorem field_7_0 : fieldOf Tryz.prog 7 0 = some (0, 2) := by kernel_rfl
theorem field_7_1 : fieldOf Tryz.prog 7 1 = some (1, 3) := by kernel_rfl
theorem field_7_2 : fieldOf Tryz.prog 7 2 = some (2, 4) := by kernel_rfl
theorem field_7_3 : fieldOf Tryz.prog 7 3 = some (3, 6) := by kernel_rfl
theorem places_8 : placesOf Tryz.prog 8 = some [(0, 1), (1, 1), (2, 1), (3, 1)] := by kernel_rfl
theorem field_8_0 : fieldOf Tryz.prog 8 0 = some (0, 2) := by kernel_rfl
theorem field_8_1 : fieldOf Tryz.prog 8 1 = some (1, 3) := by kernel_rfl
theorem field_8_2 : fieldOf Tryz.prog 8 2 = some (2, 4) := by kernel_rfl
theorem field_8_3 : fieldOf Tryz.prog 8 3 = some (3, 6) := by kernel_rfl
theorem places_13 : placesOf Tryz.prog 13 = some [(0, 1), (1, 1)] := by kernel_rfl
theorem field_13_0 : fieldOf Tryz.prog 13 0 = some (0, 9) := by kernel_rfl
theorem field_13_1 : fieldOf Tryz.prog 13 1 = some (1, 12) := by kernel_rfl
theorem places_14 : placesOf Tryz.prog 14 = some [(0, 1), (1, 1)] := by kernel_rfl
theorem field_14_0 : fieldOf Tryz.prog 14 0 = some (0, 9) := by kernel_rfl
theorem field_14_1 : fieldOf Tryz.prog 14 1 = some (1, 12) := by kernel_rfl
theorem places_18 : placesOf Tryz.prog 18 = some [(0, 1)] := by kernel_rfl
theorem field_18_0 : fieldOf Tryz.prog 18 0 = some (0, 17) := by kernel_rfl
theorem places_19 : placesOf Tryz.prog 19 = some [(0, 1)] := by kernel_rfl
theorem field_19_0 : fieldOf Tryz.prog 19 0 = some (0, 17) := by kernel_rfl
theorem places_30 : placesOf Tryz.prog 30 = some [(0, 1), (1, 1)] := by kernel_rfl
theorem field_30_0 : fieldOf Tryz.prog 30 0 = some (0, 3) := by kernel_rfl
theorem field_30_1 : fieldOf Tryz.prog 30 1 = some (1, 29) := by kernel_rfl
theorem places_31 : placesOf Tryz.prog 31 = some [(0, 1), (1, 1)] := by kernel_rfl
theorem field_31_0 : fieldOf Tryz.prog 31 0 = some (0, 3) := by kernel_rfl
theorem field_31_1 : fieldOf Tryz.prog 31 1 = some (1, 29) := by kernel_rfl
theorem places_32 : placesOf Tryz.prog 32 = some [(0, 1), (1, 1), (2, 1), (3, 1), (4, 1), (5, 1), (6, 1), (7, 1), (8, 2)] := by kernel_rfl
theorem field_32_0 : fieldOf Tryz.prog 32 0 = some (0, 3) := by kernel_rfl
theorem field_32_1 : fieldOf Tryz.prog 32 1 = some (1, 26) := by kernel_rfl
theorem field_32_2 : fieldOf Tryz.prog 32 2 = some (2, 26) := by kernel_rfl
theorem field_32_3 : fieldOf Tryz.prog 32 3 = some (3, 26) := by kernel_rfl
theorem field_32_4 : fieldOf Tryz.prog 32 4 = some (4, 27) := by kernel_rfl
theorem field_32_5 : fieldOf Tryz.prog 32 5 = some (5, 3) := by kernel_rfl
theorem field_32_6 : fieldOf Tryz.prog 32 6 = some (6, 3) := by kernel_rfl
theorem field_32_7 : fieldOf Tryz.prog 32 7 = some (7, 28) := by kernel_rfl
theorem field_32_8 : fieldOf Tryz.prog 32 8 = some (8, 31) := by kernel_rfl
theorem places_33 : placesOf Tryz.prog 33 = some [(0, 1), (1, 1), (2, 1), (3, 1), (4, 1), (5, 1), (6, 1), (7, 1), (8, 2)] := by kernel_rfl
theorem field_33_0 : fieldOf Tryz.prog 33 0 = some (0, 3) := by kernel_rfl
theorem field_33_1 : fieldOf Tryz.prog 33 1 = some (1, 26) := by kernel_rfl
theorem field_33_2 : fieldOf Tryz.prog 33 2 = some (2, 26) := by kernel_rfl
theorem field_33_3 : fieldOf Tryz.prog 33 3 = some (3, 26) := by kernel_rfl
theorem field_33_4 : fieldOf Tryz.prog 33 4 = some (4, 27) := by kernel_rfl
theorem field_33_5 : fieldOf Tryz.prog 33 5 = some (5, 3) := by kernel_rfl
theorem field_33_6 : fieldOf Tryz.prog 33 6 = some (6, 3) := by kernel_rfl
theorem field_33_7 : fieldOf Tryz.prog 33 7 = some (7, 28) := by kernel_rfl
theorem field_33_8 : fieldOf Tryz.prog 33 8 = some (8, 31) := by kernel_rfl
theorem places_52 : placesOf Tryz.prog 52 = some [(0, 1), (1, 1)] := by kernel_rfl
theorem field_52_0 : fieldOf Tryz.prog 52 0 = some (0, 27) := by kernel_rfl
theorem field_52_1 : fieldOf Tryz.prog 52 1 = some (1, 51) := by kernel_rfl
theorem places_53 : placesOf Tryz.prog 53 = some [(0, 1), (1, 1)] := by kernel_rfl
theorem field_53_0 : fieldOf Tryz.prog 53 0 = some (0, 27) := by kernel_rfl
theorem field_53_1 : fieldOf Tryz.prog 53 1 = some (1, 51) := by kernel_rfl
theorem places_63 : placesOf Tryz.prog 63 = some [(0, 1), (1, 1), (2, 1)] := by kernel_rfl
theorem field_63_0 : fieldOf Tryz.prog 63 0 = some (0, 27) := by kernel_rfl
theorem field_63_1 : fieldOf Tryz.prog 63 1 = some (1, 3) := by kernel_rfl
theorem field_63_2 : fieldOf Tryz.prog 63 2 = some (2, 27) := by kernel_rfl
theorem places_64 : placesOf Tryz.prog 64 = some [(0, 1), (1, 1), (2, 1)] := by kernel_rfl
theorem field_64_0 : fieldOf Tryz.prog 64 0 = some (0, 27) := by kernel_rfl
theorem field_64_1 : fieldOf Tryz.prog 64 1 = some (1, 3) := by kernel_rfl
theorem field_64_2 : fieldOf Tryz.prog 64 2 = some (2, 27) := by kernel_rfl
theorem places_70 : placesOf Tryz.prog 70 = some [(0, 1), (1, 2)] := by kernel_rfl
theorem field_70_0 : fieldOf Tryz.prog 70 0 = some (0, 3) := by kernel_rfl
theorem field_70_1 : fieldOf Tryz.prog 70 1 = some (1, 31) := by kernel_rfl
theorem places_71 : placesOf Tryz.prog 71 = some [(0, 1), (1, 2)] := by kernel_rfl
theorem field_71_0 : fieldOf Tryz.prog 71 0 = some (0, 3) := by kernel_rfl
theorem field_71_1 : fieldOf Tryz.prog 71 1 = some (1, 31) := by kernel_rfl
theorem places_82 : placesOf Tryz.prog 82 = some [(0, 1), (1, 1)] := by kernel_rfl
theorem places_95 : placesOf Tryz.prog 95 = some [(0, 1), (1, 1), (2, 1), (3, 1), (4, 1), (5, 1), (6, 1), (7, 1), (8, 1), (9, 1), (10, 1), (11, 1), (12, 1), (13, 1)] := by kernel_rfl
theorem field_95_0 : fieldOf Tryz.prog 95 0 = some (0, 9) := by kernel_rfl
theorem field_95_1 : fieldOf Tryz.prog 95 1 = some (1, 3) := by kernel_rfl
theorem field_95_2 : fieldOf Tryz.prog 95 2 = some (2, 3) := by kernel_rfl
theorem field_95_3 : fieldOf Tryz.prog 95 3 = some (3, 27) := by kernel_rfl
theorem field_95_4 : fieldOf Tryz.prog 95 4 = some (4, 27) := by kernel_rfl
theorem field_95_5 : fieldOf Tryz.prog 95 5 = some (5, 27) := by kernel_rfl
theorem field_95_6 : fieldOf Tryz.prog 95 6 = some (6, 3) := by kernel_rfl
theorem field_95_7 : fieldOf Tryz.prog 95 7 = some (7, 3) := by kernel_rfl
theorem field_95_8 : fieldOf Tryz.prog 95 8 = some (8, 3) := by kernel_rfl
theorem field_95_9 : fieldOf Tryz.prog 95 9 = some (9, 27) := by kernel_rfl
theorem field_95_10 : fieldOf Tryz.prog 95 10 = some (10, 27) := by kernel_rfl
theorem field_95_11 : fieldOf Tryz.prog 95 11 = some (11, 94) := by kernel_rfl
theorem field_95_12 : fieldOf Tryz.prog 95 12 = some (12, 27) := by kernel_rfl
theorem field_95_13 : fieldOf Tryz.prog 95 13 = some (13, 3) := by kernel_rfl
theorem places_96 : placesOf Tryz.prog 96 = some [(0, 1), (1, 1), (2, 1), (3, 1), (4, 1), (5, 1), (6, 1), (7, 1), (8, 1), (9, 1), (10, 1), (11, 1), (12, 1), (13, 1)] := by kernel_rfl
theorem field_96_0 : fieldOf Tryz.prog 96 0 = some (0, 9) := by kernel_rfl
theorem field_96_1 : fieldOf Tryz.prog 96 1 = some (1, 3) := by kernel_rfl
theorem field_96_2 : fieldOf Tryz.prog 96 2 = some (2, 3) := by kernel_rfl
theorem field_96_3 : fieldOf Tryz.prog 96 3 = some (3, 27) := by kernel_rfl
theorem field_96_4 : fieldOf Tryz.prog 96 4 = some (4, 27) := by kernel_rfl
theorem field_96_5 : fieldOf Tryz.prog 96 5 = some (5, 27) := by kernel_rfl
theorem field_96_6 : fieldOf Tryz.prog 96 6 = some (6, 3) := by kernel_rfl
theorem field_96_7 : fieldOf Tryz.prog 96 7 = some (7, 3) := by kernel_rfl
theorem field_96_8 : fieldOf Tryz.prog 96 8 = some (8, 3) := by kernel_rfl
theorem field_96_9 : fieldOf Tryz.prog 96 9 = some (9, 27) := by kernel_rfl
theorem field_96_10 : fieldOf Tryz.prog 96 10 = some (10, 27) := by kernel_rfl
theorem field_96_11 : fieldOf Tryz.prog 96 11 = some (11, 94) := by kernel_rfl
theorem field_96_12 : fieldOf Tryz.prog 96 12 = some (12, 27) := by kernel_rfl
theorem field_96_13 : fieldOf Tryz.prog 96 13 = some (13, 3) := by kernel_rfl
theorem places_97 : placesOf Tryz.prog 97 = some [(0, 1), (1, 1)] := by kernel_rfl
theorem field_97_0 : fieldOf Tryz.prog 97 0 = some (0, 22) := by kernel_rfl
theorem field_97_1 : fieldOf Tryz.prog 97 1 = some (1, 3) := by kernel_rfl
theorem places_98 : placesOf Tryz.prog 98 = some [(0, 1), (1, 1)] := by kernel_rfl
theorem field_98_0 : fieldOf Tryz.prog 98 0 = some (0, 22) := by kernel_rfl
theorem field_98_1 : fieldOf Tryz.prog 98 1 = some (1, 3) := by kernel_rfl
theorem places_102 : placesOf Tryz.prog 102 = some [(0, 1), (1, 1)] := by kernel_rfl
theorem field_102_0 : fieldOf Tryz.prog 102 0 = some (0, 27) := by kernel_rfl
theorem field_102_1 : fieldOf Tryz.prog 102 1 = some (1, 27) := by kernel_rfl
theorem places_103 : placesOf Tryz.prog 103 = some [(0, 1), (1, 1)] := by kernel_rfl
theorem field_103_0 : fieldOf Tryz.prog 103 0 = some (0, 27) := by kernel_rfl
theorem field_103_1 : fieldOf Tryz.prog 103 1 = some (1, 27) := by kernel_rfl
theorem places_126 : placesOf Tryz.prog 126 = some [(0, 1), (1, 1), (2, 1), (3, 1)] := by kernel_rfl
theorem field_126_0 : fieldOf Tryz.prog 126 0 = some (0, 3) := by kernel_rfl
theorem field_126_1 : fieldOf Tryz.prog 126 1 = some (1, 3) := by kernel_rfl
theorem field_126_2 : fieldOf Tryz.prog 126 2 = some (2, 27) := by kernel_rfl
theorem field_126_3 : fieldOf Tryz.prog 126 3 = some (3, 125) := by kernel_rfl
theorem places_127 : placesOf Tryz.prog 127 = some [(0, 1), (1, 1), (2, 1), (3, 1)] := by kernel_rfl
theorem field_127_0 : fieldOf Tryz.prog 127 0 = some (0, 3) := by kernel_rfl
theorem field_127_1 : fieldOf Tryz.prog 127 1 = some (1, 3) := by kernel_rfl
theorem field_127_2 : fieldOf Tryz.prog 127 2 = some (2, 27) := by kernel_rfl
theorem field_127_3 : fieldOf Tryz.prog 127 3 = some (3, 125) := by kernel_rfl
theorem places_135 : placesOf Tryz.prog 135 = some [(0, 10), (10, 3)] := by kernel_rfl
theorem field_135_0 : fieldOf Tryz.prog 135 0 = some (0, 33) := by kernel_rfl
theorem field_135_1 : fieldOf Tryz.prog 135 1 = some (10, 64) := by kernel_rfl
theorem places_136 : placesOf Tryz.prog 136 = some [(0, 10), (10, 3)] := by kernel_rfl
theorem field_136_0 : fieldOf Tryz.prog 136 0 = some (0, 33) := by kernel_rfl
theorem field_136_1 : fieldOf Tryz.prog 136 1 = some (10, 64) := by kernel_rfl
theorem places_172 : placesOf Tryz.prog 172 = some [(0, 1), (1, 1), (2, 1)] := by kernel_rfl
theorem field_172_0 : fieldOf Tryz.prog 172 0 = some (0, 3) := by kernel_rfl
theorem field_172_1 : fieldOf Tryz.prog 172 1 = some (1, 3) := by kernel_rfl
theorem field_172_2 : fieldOf Tryz.prog 172 2 = some (2, 3) := by kernel_rfl
theorem places_173 : placesOf Tryz.prog 173 = some [(0, 1), (1, 1), (2, 1)] := by kernel_rfl
theorem field_173_0 : fieldOf Tryz.prog 173 0 = some (0, 3) := by kernel_rfl
theorem field_173_1 : fieldOf Tryz.prog 173 1 = some (1, 3) := by kernel_rfl
theorem field_173_2 : fieldOf Tryz.prog 173 2 = some (2, 3) := by kernel_rfl
theorem places_204 : placesOf Tryz.prog 204 = some [(0, 2), (2, 2), (4, 2), (6, 2)] := by kernel_rfl
theorem field_204_0 : fieldOf Tryz.prog 204 0 = some (0, 82) := by kernel_rfl
theorem field_204_1 : fieldOf Tryz.prog 204 1 = some (2, 82) := by kernel_rfl
theorem field_204_2 : fieldOf Tryz.prog 204 2 = some (4, 82) := by kernel_rfl
theorem field_204_3 : fieldOf Tryz.prog 204 3 = some (6, 82) := by kernel_rfl
theorem places_205 : placesOf Tryz.prog 205 = some [(0, 2), (2, 2), (4, 2), (6, 2)] := by kernel_rfl
theorem field_205_0 : fieldOf Tryz.prog 205 0 = some (0, 82) := by kernel_rfl
theorem field_205_1 : fieldOf Tryz.prog 205 1 = some (2, 82) := by kernel_rfl
theorem field_205_2 : fieldOf Tryz.prog 205 2 = some (4, 82) := by kernel_rfl
theorem field_205_3 : fieldOf Tryz.prog 205 3 = some (6, 82) := by kernel_rfl
theorem places_235 : placesOf Tryz.prog 235 = some [(0, 1), (1, 1), (2, 1), (3, 1)] := by kernel_rfl
theorem field_235_0 : fieldOf Tryz.prog 235 0 = some (0, 17) := by kernel_rfl
theorem field_235_1 : fieldOf Tryz.prog 235 1 = some (1, 17) := by kernel_rfl
theorem field_235_2 : fieldOf Tryz.prog 235 2 = some (2, 17) := by kernel_rfl
theorem field_235_3 : fieldOf Tryz.prog 235 3 = some (3, 9) := by kernel_rfl
theorem places_236 : placesOf Tryz.prog 236 = some [(0, 1), (1, 1), (2, 1), (3, 1)] := by kernel_rfl
theorem field_236_0 : fieldOf Tryz.prog 236 0 = some (0, 17) := by kernel_rfl
theorem field_236_1 : fieldOf Tryz.prog 236 1 = some (1, 17) := by kernel_rfl
theorem field_236_2 : fieldOf Tryz.prog 236 2 = some (2, 17) := by kernel_rfl
theorem field_236_3 : fieldOf Tryz.prog 236 3 = some (3, 9) := by kernel_rfl
theorem places_237 : placesOf Tryz.prog 237 = some [] := by kernel_rfl
theorem places_238 : placesOf Tryz.prog 238 = some [(0, 0)] := by kernel_rfl
theorem field_238_0 : fieldOf Tryz.prog 238 0 = some (0, 237) := by kernel_rfl
theorem places_239 : placesOf Tryz.prog 239 = some [(0, 0)] := by kernel_rfl
theorem field_239_0 : fieldOf Tryz.prog 239 0 = some (0, 237) := by kernel_rfl
theorem places_247 : placesOf Tryz.prog 247 = some [(0, 1), (1, 1), (2, 1), (3, 1), (4, 1), (5, 1), (6, 1), (7, 1), (8, 1), (9, 1), (10, 1)] := by kernel_rfl
theorem field_247_0 : fieldOf Tryz.prog 247 0 = some (0, 12) := by kernel_rfl
theorem field_247_1 : fieldOf Tryz.prog 247 1 = some (1, 12) := by kernel_rfl
theorem field_247_2 : fieldOf Tryz.prog 247 2 = some (2, 197) := by kernel_rfl
theorem field_247_3 : fieldOf Tryz.prog 247 3 = some (3, 241) := by kernel_rfl
theorem field_247_4 : fieldOf Tryz.prog 247 4 = some (4, 5) := by kernel_rfl
theorem field_247_5 : fieldOf Tryz.prog 247 5 = some (5, 5) := by kernel_rfl
theorem field_247_6 : fieldOf Tryz.prog 247 6 = some (6, 242) := by kernel_rfl
theorem field_247_7 : fieldOf Tryz.prog 247 7 = some (7, 243) := by kernel_rfl
theorem field_247_8 : fieldOf Tryz.prog 247 8 = some (8, 244) := by kernel_rfl
theorem field_247_9 : fieldOf Tryz.prog 247 9 = some (9, 245) := by kernel_rfl
theorem field_247_10 : fieldOf Tryz.prog 247 10 = some (10, 246) := by kernel_rfl
theorem places_248 : placesOf Tryz.prog 248 = some [(0, 1), (1, 1), (2, 1), (3, 1), (4, 1), (5, 1), (6, 1), (7, 1), (8, 1), (9, 1), (10, 1)] := by kernel_rfl
theorem field_248_0 : fieldOf Tryz.prog 248 0 = some (0, 12) := by kernel_rfl
theorem field_248_1 : fieldOf Tryz.prog 248 1 = some (1, 12) := by kernel_rfl
theorem field_248_2 : fieldOf Tryz.prog 248 2 = some (2, 197) := by kernel_rfl
theorem field_248_3 : fieldOf Tryz.prog 248 3 = some (3, 241) := by kernel_rfl
theorem field_248_4 : fieldOf Tryz.prog 248 4 = some (4, 5) := by kernel_rfl
theorem field_248_5 : fieldOf Tryz.prog 248 5 = some (5, 5) := by kernel_rfl
theorem field_248_6 : fieldOf Tryz.prog 248 6 = some (6, 242) := by kernel_rfl
theorem field_248_7 : fieldOf Tryz.prog 248 7 = some (7, 243) := by kernel_rfl
theorem field_248_8 : fieldOf Tryz.prog 248 8 = some (8, 244) := by kernel_rfl
theorem field_248_9 : fieldOf Tryz.prog 248 9 = some (9, 245) := by kernel_rfl
theorem field_248_10 : fieldOf Tryz.prog 248 10 = some (10, 246) := by kernel_rfl
theorem mixed : Tryz.prog.follows .mixedOrders = true := by kernel_rfl
attribute [go_sem] tinfo_0 agg_0 Tryz.underlying0 tinfo_1 agg_1 Tryz.underlying1 tinfo_2 agg_2 Tryz.underlying2 tinfo_3 agg_3 Tryz.underlying3 tinfo_4 agg_4 Tryz.underlying4 tinfo_5 agg_5 Tryz.underlying5 tinfo_6 agg_6 Tryz.underlying6 tinfo_7 agg_7 Tryz.underlying7 tinfo_8 agg_8 Tryz.underlying8 tinfo_9 agg_9 Tryz.underlying9 tinfo_10 agg_10 Tryz.underlying10 tinfo_11 agg_11 Tryz.underlying11 tinfo_12 agg_12 Tryz.underlying12 tinfo_13 agg_13 Tryz.underlying13 tinfo_14 agg_14 Tryz.underlying14 tinfo_15 agg_15 Tryz.underlying15 tinfo_16 agg_16 Tryz.underlying16 tinfo_17 agg_17 Tryz.underlying17 tinfo_18 agg_18 Tryz.underlying18 tinfo_19 agg_19 Tryz.underlying19 tinfo_20 agg_20 Tryz.underlying20 tinfo_21 agg_21 Tryz.underlying21 tinfo_22 agg_22 Tryz.underlying22 tinfo_23 agg_23 Tryz.underlying23 tinfo_24 agg_24 Tryz.underlying24 tinfo_25 agg_25 Tryz.underlying25 tinfo_26 agg_26 Tryz.underlying26 tinfo_27 agg_27 Tryz.underlying27 tinfo_28 agg_28 Tryz.underlying28 tinfo_29 agg_29 Tryz.underlying29 tinfo_30 agg_30 Tryz.underlying30 tinfo_31 agg_31 Tryz.underlying31 tinfo_32 agg_32 Tryz.underlying32 tinfo_33 agg_33 Tryz.underlying33 tinfo_34 agg_34 Tryz.underlying34 tinfo_35 agg_35 Tryz.underlying35 tinfo_36 agg_36 Tryz.underlying36 tinfo_37 agg_37 Tryz.underlying37 tinfo_38 agg_38 Tryz.underlying38 tinfo_39 agg_39 Tryz.underlying39 tinfo_40 agg_40 Tryz.underlying40 tinfo_41 agg_41 Tryz.underlying41 tinfo_42 agg_42 Tryz.underlying42 tinfo_43 agg_43 Tryz.underlying43 tinfo_44 agg_44 Tryz.underlying44 tinfo_45 agg_45 Tryz.underlying45 tinfo_46 agg_46 Tryz.underlying46 tinfo_47 agg_47 Tryz.underlying47 tinfo_48 agg_48 Tryz.underlying48 tinfo_49 agg_49 Tryz.underlying49 tinfo_50 agg_50 Tryz.underlying50 tinfo_51 agg_51 Tryz.underlying51 tinfo_52 agg_52 Tryz.underlying52 tinfo_53 agg_53 Tryz.underlying53 tinfo_54 agg_54 Tryz.underlying54 tinfo_55 agg_55 Tryz.underlying55 tinfo_56 agg_56 Tryz.underlying56 tinfo_57 agg_57 Tryz.underlying57 tinfo_58 agg_58 Tryz.underlying58 tinfo_59 agg_59 Tryz.underlying59 tinfo_60 agg_60 Tryz.underlying60 tinfo_61 agg_61 Tryz.underlying61 tinfo_62 agg_62 Tryz.underlying62 tinfo_63 agg_63 Tryz.underlying63 tinfo_64 agg_64 Tryz.underlying64 tinfo_65 agg_65 Tryz.underlying65 tinfo_66 agg_66 Tryz.underlying66 tinfo_67 agg_67 Tryz.underlying67 tinfo_68 agg_68 Tryz.underlying68 tinfo_69 agg_69 Tryz.underlying69 tinfo_70 agg_70 Tryz.underlying70 tinfo_71 agg_71 Tryz.underlying71 tinfo_72 agg_72 Tryz.underlying72 tinfo_73 agg_73 Tryz.underlying73 tinfo_74 agg_74 Tryz.underlying74 tinfo_75 agg_75 Tryz.underlying75 tinfo_76 agg_76 Tryz.underlying76 tinfo_77 agg_77 Tryz.underlying77 tinfo_78 agg_78 Tryz.underlying78 tinfo_79 agg_79 Tryz.underlying79 tinfo_80 agg_80 Tryz.underlying80 tinfo_81 agg_81 Tryz.underlying81 tinfo_82 agg_82 Tryz.underlying82 tinfo_83 agg_83 Tryz.underlying83 tinfo_84 agg_84 Tryz.underlying84 tinfo_85 agg_85 Tryz.underlying85 tinfo_86 agg_86 Tryz.underlying86 tinfo_87 agg_87 Tryz.underlying87 tinfo_88 agg_88 Tryz.underlying88 tinfo_89 agg_89 Tryz.underlying89 tinfo_90 agg_90 Tryz.underlying90 tinfo_91 agg_91 Tryz.underlying91 tinfo_92 agg_92 Tryz.underlying92 tinfo_93 agg_93 Tryz.underlying93 tinfo_94 agg_94 Tryz.underlying94 tinfo_95 agg_95 Tryz.underlying95 tinfo_96 agg_96 Tryz.underlying96 tinfo_97 agg_97 Tryz.underlying97 tinfo_98 agg_98 Tryz.underlying98 tinfo_99 agg_99 Tryz.underlying99 tinfo_100 agg_100 Tryz.underlying100 tinfo_101 agg_101 Tryz.underlying101 tinfo_102 agg_102 Tryz.underlying102 tinfo_103 agg_103 Tryz.underlying103 tinfo_104 agg_104 Tryz.underlying104 tinfo_105 agg_105 Tryz.underlying105 tinfo_106 agg_106 Tryz.underlying106 tinfo_107 agg_107 Tryz.underlying107 tinfo_108 agg_108 Tryz.underlying108 tinfo_109 agg_109 Tryz.underlying109 tinfo_110 agg_110 Tryz.underlying110 tinfo_111 agg_111 Tryz.underlying111 tinfo_112 agg_112 Tryz.underlying112 tinfo_113 agg_113 Tryz.underlying113 tinfo_114 agg_114 Tryz.underlying114 tinfo_115 agg_115 Tryz.underlying115 tinfo_116 agg_116 Tryz.underlying116 tinfo_117 agg_117 Tryz.underlying117 tinfo_118 agg_118 Tryz.underlying118 tinfo_119 agg_119 Tryz.underlying119 tinfo_120 agg_120 Tryz.underlying120 tinfo_121 agg_121 Tryz.underlying121 tinfo_122 agg_122 Tryz.underlying122 tinfo_123 agg_123 Tryz.underlying123 tinfo_124 agg_124 Tryz.underlying124 tinfo_125 agg_125 Tryz.underlying125 tinfo_126 agg_126 Tryz.underlying126 tinfo_127 agg_127 Tryz.underlying127 tinfo_128 agg_128 Tryz.underlying128 tinfo_129 agg_129 Tryz.underlying129 tinfo_130 agg_130 Tryz.underlying130 tinfo_131 agg_131 Tryz.underlying131 tinfo_132 agg_132 Tryz.underlying132 tinfo_133 agg_133 Tryz.underlying133 tinfo_134 agg_134 Tryz.underlying134 tinfo_135 agg_135 Tryz.underlying135 tinfo_136 agg_136 Tryz.underlying136 tinfo_137 agg_137 Tryz.underlying137 tinfo_138 agg_138 Tryz.underlying138 tinfo_139 agg_139 Tryz.underlying139 tinfo_140 agg_140 Tryz.underlying140 tinfo_141 agg_141 Tryz.underlying141 tinfo_142 agg_142 Tryz.underlying142 tinfo_143 agg_143 Tryz.underlying143 tinfo_144 agg_144 Tryz.underlying144 tinfo_145 agg_145 Tryz.underlying145 tinfo_146 agg_146 Tryz.underlying146 tinfo_147 agg_147 Tryz.underlying147 tinfo_148 agg_148 Tryz.underlying148 tinfo_149 agg_149 Tryz.underlying149 tinfo_150 agg_150 Tryz.underlying150 tinfo_151 agg_151 Tryz.underlying151 tinfo_152 agg_152 Tryz.underlying152 tinfo_153 agg_153 Tryz.underlying153 tinfo_154 agg_154 Tryz.underlying154 tinfo_155 agg_155 Tryz.underlying155 tinfo_156 agg_156 Tryz.underlying156 tinfo_157 agg_157 Tryz.underlying157 tinfo_158 agg_158 Tryz.underlying158 tinfo_159 agg_159 Tryz.underlying159 tinfo_160 agg_160 Tryz.underlying160 tinfo_161 agg_161 Tryz.underlying161 tinfo_162 agg_162 Tryz.underlying162 tinfo_163 agg_163 Tryz.underlying163 tinfo_164 agg_164 Tryz.underlying164 tinfo_165 agg_165 Tryz.underlying165 tinfo_166 agg_166 Tryz.underlying166 tinfo_167 agg_167 Tryz.underlying167 tinfo_168 agg_168 Tryz.underlying168 tinfo_169 agg_169 Tryz.underlying169 tinfo_170 agg_170 Tryz.underlying170 tinfo_171 agg_171 Tryz.underlying171 tinfo_172 agg_172 Tryz.underlying172 tinfo_173 agg_173 Tryz.underlying173 tinfo_174 agg_174 Tryz.underlying174 tinfo_175 agg_175 Tryz.underlying175 tinfo_176 agg_176 Tryz.underlying176 tinfo_177 agg_177 Tryz.underlying177 tinfo_178 agg_178 Tryz.underlying178 tinfo_179 agg_179 Tryz.underlying179 tinfo_180 agg_180 Tryz.underlying180 tinfo_181 agg_181 Tryz.underlying181 tinfo_182 agg_182 Tryz.underlying182 tinfo_183 agg_183 Tryz.underlying183 tinfo_184 agg_184 Tryz.underlying184 tinfo_185 agg_185 Tryz.underlying185 tinfo_186 agg_186 Tryz.underlying186 tinfo_187 agg_187 Tryz.underlying187 tinfo_188 agg_188 Tryz.underlying188 tinfo_189 agg_189 Tryz.underlying189 tinfo_190 agg_190 Tryz.underlying190 tinfo_191 agg_191 Tryz.underlying191 tinfo_192 agg_192 Tryz.underlying192 tinfo_193 agg_193 Tryz.underlying193 tinfo_194 agg_194 Tryz.underlying194 tinfo_195 agg_195 Tryz.underlying195 tinfo_196 agg_196 Tryz.underlying196 tinfo_197 agg_197 Tryz.underlying197 tinfo_198 agg_198 Tryz.underlying198 tinfo_199 agg_199 Tryz.underlying199 tinfo_200 agg_200 Tryz.underlying200 tinfo_201 agg_201 Tryz.underlying201 tinfo_202 agg_202 Tryz.underlying202 tinfo_203 agg_203 Tryz.underlying203 tinfo_204 agg_204 Tryz.underlying204 tinfo_205 agg_205 Tryz.underlying205 tinfo_206 agg_206 Tryz.underlying206 tinfo_207 agg_207 Tryz.underlying207 tinfo_208 agg_208 Tryz.underlying208 tinfo_209 agg_209 Tryz.underlying209 tinfo_210 agg_210 Tryz.underlying210 tinfo_211 agg_211 Tryz.underlying211 tinfo_212 agg_212 Tryz.underlying212 tinfo_213 agg_213 Tryz.underlying213 tinfo_214 agg_214 Tryz.underlying214 tinfo_215 agg_215 Tryz.underlying215 tinfo_216 agg_216 Tryz.underlying216 tinfo_217 agg_217 Tryz.underlying217 tinfo_218 agg_218 Tryz.underlying218 tinfo_219 agg_219 Tryz.underlying219 tinfo_220 agg_220 Tryz.underlying220 tinfo_221 agg_221 Tryz.underlying221 tinfo_222 agg_222 Tryz.underlying222 tinfo_223 agg_223 Tryz.underlying223 tinfo_224 agg_224 Tryz.underlying224 tinfo_225 agg_225 Tryz.underlying225 tinfo_226 agg_226 Tryz.underlying226 tinfo_227 agg_227 Tryz.underlying227 tinfo_228 agg_228 Tryz.underlying228 tinfo_229 agg_229 Tryz.underlying229 tinfo_230 agg_230 Tryz.underlying230 tinfo_231 agg_231 Tryz.underlying231 tinfo_232 agg_232 Tryz.underlying232 tinfo_233 agg_233 Tryz.underlying233 tinfo_234 agg_234 Tryz.underlying234 tinfo_235 agg_235 Tryz.underlying235 tinfo_236 agg_236 Tryz.underlying236 tinfo_237 agg_237 Tryz.underlying237 tinfo_238 agg_238 Tryz.underlying238 tinfo_239 agg_239 Tryz.underlying239 tinfo_240 agg_240 Tryz.underlying240 tinfo_241 agg_241 Tryz.underlying241 tinfo_242 agg_242 Tryz.underlying242 tinfo_243 agg_243 Tryz.underlying243 tinfo_244 agg_244 Tryz.underlying244 tinfo_245 agg_245 Tryz.underlying245 tinfo_246 agg_246 Tryz.underlying246 tinfo_247 agg_247 Tryz.underlying247 tinfo_248 agg_248 Tryz.underlying248 tinfo_249 agg_249 Tryz.underlying249 places_7 field_7_0 field_7_1 field_7_2 field_7_3 places_8 field_8_0 field_8_1 field_8_2 field_8_3 places_13 field_13_0 field_13_1 places_14 field_14_0 field_14_1 places_18 field_18_0 places_19 field_19_0 places_30 field_30_0 field_30_1 places_31 field_31_0 field_31_1 places_32 field_32_0 field_32_1 field_32_2 field_32_3 field_32_4 field_32_5 field_32_6 field_32_7 field_32_8 places_33 field_33_0 field_33_1 field_33_2 field_33_3 field_33_4 field_33_5 field_33_6 field_33_7 field_33_8 places_52 field_52_0 field_52_1 places_53 field_53_0 field_53_1 places_63 field_63_0 field_63_1 field_63_2 places_64 field_64_0 field_64_1 field_64_2 places_70 field_70_0 field_70_1 places_71 field_71_0 field_71_1 places_82 places_95 field_95_0 field_95_1 field_95_2 field_95_3 field_95_4 field_95_5 field_95_6 field_95_7 field_95_8 field_95_9 field_95_10 field_95_11 field_95_12 field_95_13 places_96 field_96_0 field_96_1 field_96_2 field_96_3 field_96_4 field_96_5 field_96_6 field_96_7 field_96_8 field_96_9 field_96_10 field_96_11 field_96_12 field_96_13 places_97 field_97_0 field_97_1 places_98 field_98_0 field_98_1 places_102 field_102_0 field_102_1 places_103 field_103_0 field_103_1 places_126 field_126_0 field_126_1 field_126_2 field_126_3 places_127 field_127_0 field_127_1 field_127_2 field_127_3 places_135 field_135_0 field_135_1 places_136 field_136_0 field_136_1 places_172 field_172_0 field_172_1 field_172_2 places_173 field_173_0 field_173_1 field_173_2 places_204 field_204_0 field_204_1 field_204_2 field_204_3 places_205 field_205_0 field_205_1 field_205_2 field_205_3 places_235 field_235_0 field_235_1 field_235_2 field_235_3 places_236 field_236_0 field_236_1 field_236_2 field_236_3 places_237 places_238 field_238_0 places_239 field_239_0 places_247 field_247_0 field_247_1 field_247_2 field_247_3 field_247_4 field_247_5 field_247_6 field_247_7 field_247_8 field_247_9 field_247_10 places_248 field_248_0 field_248_1 field_248_2 field_248_3 field_248_4 field_248_5 field_248_6 field_248_7 field_248_8 field_248_9 field_248_10
end Go.AM

/-! ## LCand -/
namespace Go.AM

/-- the k lowest digits (base 3) of a number, each less one -/
def digs : Nat → Nat → List Int
  | 0, _ => []
  | k + 1, c => (((c % 3 : Nat) : Int) - 1) :: digs k (c / 3)
theorem digs_len : ∀ k c, (digs k c).length = k
  | 0, _ => rfl
  | k + 1, c => by rw [digs, List.length_cons, digs_len k]
theorem digs_inj : ∀ k {c e : Nat}, c < 3 ^ k → e < 3 ^ k → digs k c = digs k e → c = e
  | 0, c, e, hc, he, _ => by simp at hc he; omega
  | k + 1, c, e, hc, he, h => by
    rw [digs, digs] at h
    injection h with h1 h2
    rw [Nat.pow_succ] at hc he
    have := digs_inj k (c := c / 3) (e := e / 3) (by omega) (by omega) h2
    omega
theorem digs_mem : ∀ k c x, x ∈ digs k c → -1 ≤ x ∧ x ≤ 1
  | 0, _, x, h => by simp [digs] at h
  | k + 1, c, x, h => by
    rw [digs, List.mem_cons] at h
    rcases h with rfl | h
    · omega
    · exact digs_mem k _ x h
theorem digs_at : ∀ k c i, i < k → (digs k c)[i]! = ((c / 3 ^ i % 3 : Nat) : Int) - 1
  | k + 1, c, 0, _ => by simp [digs]
  | k + 1, c, i + 1, h => by
    rw [digs, List.getElem!_cons_succ, digs_at k _ i (by omega), Nat.div_div_eq_div_mul, Nat.pow_succ, Nat.mul_comm 3]
/-- the modulus of a candidate -/
def candMod (k n : Nat) : Nat := if n / 3 ^ k = 0 then 0 else n / 3 ^ k + 1
theorem candMod_ne (k n : Nat) : candMod k n ≠ 1 := by unfold candMod; split <;> omega
theorem candMod_le {k n : Nat} (h : n < 8 * 3 ^ k) : candMod k n ≤ 8 := by
  have : n / 3 ^ k < 8 := (Nat.div_lt_iff_lt_mul (Nat.pow_pos (by decide))).2 h
  unfold candMod; split <;> omega
theorem cand_inj {k n m : Nat} (h1 : candMod k n = candMod k m) (h2 : digs k (n % 3 ^ k) = digs k (m % 3 ^ k)) : n = m := by
  have hp : 0 < 3 ^ k := Nat.pow_pos (by decide)
  have e1 := digs_inj k (Nat.mod_lt n hp) (Nat.mod_lt m hp) h2
  have e2 : n / 3 ^ k = m / 3 ^ k := by
    unfold candMod at h1
    revert h1
    generalize n / 3 ^ k = x
    generalize m / 3 ^ k = y
    intro h1
    split at h1 <;> split at h1 <;> omega
  rw [← Nat.div_add_mod n (3 ^ k), ← Nat.div_add_mod m (3 ^ k), e1, e2]
/-- the next ones, up to 20 further, are others -/
theorem cand_next {t n p : Nat} (ht : 24 ≤ t) (hp : p < 20) : n % t ≠ (n + 1 + p) % t := by
  intro h
  have h2 : (n + 1 + p) % t = (n % t + (1 + p)) % t := by rw [Nat.add_assoc, Nat.add_mod, Nat.mod_eq_of_lt (show 1 + p < t by omega)]
  have h1 := Nat.mod_lt n (show 0 < t by omega)
  rw [h2] at h
  revert h h1
  generalize n % t = r
  intro h h1
  by_cases hl : r + (1 + p) < t
  · rw [Nat.mod_eq_of_lt hl] at h; omega
  · have e2 : r + (1 + p) = t + (r + (1 + p) - t) := by omega
    have e3 : (r + (1 + p)) % t = r + (1 + p) - t := by
      rw [e2, Nat.add_mod_left, Nat.mod_eq_of_lt (by omega)]; omega
    rw [e3] at h; omega
end Go.AM

/-! ## CmD -/
namespace Go.AM
open Go Go.Proofs Go.RowKit

/-- the dice, as they lie in memory -/
def diceA (l : List Int) (at_ : Nat) : List AV := [.sl 0 1 (l.map vu), .sc (.int .i64 at_)]
attribute [go_sem] diceA
/-- seeds -/
def Seeds (l : List Int) : Prop := l.length ≤ 200 ∧ ∀ x ∈ l, 0 ≤ x ∧ x < 256

set_option maxRecDepth 100000 in
theorem con_new (l : List Int) (hl : l.length ≤ 9223372036854775807) : Con Tryz.prog 14 [.sl 0 1 (l.map vu)] [] fun r b => r = .pb 0 0 ∧ b = [diceA (l.take 200) 0] := by
  refine Con.intro Tryz.func14 rfl Tryz.ntmps14 Tryz.results14 (by kernel_rfl) (by simp) 1 (by simp) ?_
  by_cases h : (200 : Int) < l.length
  · have h2 : 200 ≤ l.length := by omega
    simp only [go_sem, h, h2]
    simp [List.map_take]
  · have e : l.take 200 = l := List.take_of_length_le (by omega)
    simp only [go_sem, h, e]

def pickV (l : List Int) (at_ : Nat) (n : Int) : Int := if l.length ≤ at_ then 0 else l[at_]! % n
def pickA (l : List Int) (at_ : Nat) : Nat := if l.length ≤ at_ then at_ else at_ + 1
theorem pickV_lt {l : List Int} {at_ : Nat} {n : Int} (hn : 1 ≤ n) : 0 ≤ pickV l at_ n ∧ pickV l at_ n < n := by
  unfold pickV
  split
  · omega
  · exact ⟨Int.emod_nonneg _ (by omega), Int.emod_lt_of_pos _ (by omega)⟩
theorem pickA_le {l : List Int} {at_ : Nat} (h : at_ ≤ l.length) : pickA l at_ ≤ l.length := by
  unfold pickA; split <;> omega

set_option maxRecDepth 100000 in
theorem con_pickF (l : List Int) (at_ : Nat) (n : Int) (hs : Seeds l) (_ha : at_ ≤ l.length) (hn : 1 ≤ n) : Con Tryz.prog 18 [.pb 0 0, vi n] [diceA l at_]
    fun r b => r = vi (pickV l at_ n) ∧ b = [diceA l (pickA l at_)] := by
  refine Con.intro Tryz.func18 rfl Tryz.ntmps18 Tryz.results18 (by kernel_rfl) (by simp) 1 (by simp) ?_
  have hl := hs.1
  simp only [go_sem]
  refine DrawK.walk 9 mixed (by kernel_rfl) ?_
  by_cases hh : l.length ≤ at_
  · have e1 : pickV l at_ n = 0 := by unfold pickV; rw [if_pos hh]
    have e2 : pickA l at_ = at_ := by unfold pickA; rw [if_pos hh]
    simp only [go_sem, hh, e1, e2]
  · have h : at_ < l.length := by omega
    have hg := getu h
    have hw : IntKind.i64.wrap (at_ + 1) = at_ + 1 := wrap_in (by omega) (by omega)
    have hw2 : IntKind.i64.wrap ((at_ : Int) + 1 - 1) = at_ := by rw [wrap_in (by omega) (by omega)]; omega
    have hx := hs.2 l[at_]! (by simp [h])
    have hw3 : IntKind.i64.wrap l[at_]! = l[at_]! := wrap_in (by omega) (by omega)
    have e1 : pickV l at_ n = Int.tmod l[at_]! n := by unfold pickV; rw [if_neg hh, Int.tmod_eq_emod_of_nonneg hx.1]
    have e2 : pickA l at_ = at_ + 1 := by unfold pickA; rw [if_neg hh]
    simp only [go_sem, hh, hw]
    refine DrawK.walk 14 mixed (by kernel_rfl) ?_
    simp only [go_sem, h, hg, hw2, hw3, e1, e2]
    exact fun h => by omega

theorem pow3_le {k : Nat} (h : k ≤ 6) : 3 ^ k ≤ 729 := Nat.le_trans (Nat.pow_le_pow_right (by decide) h) (by decide : 3 ^ 6 ≤ 729)
theorem wrap_mul3 {x : Nat} (h : x ≤ 729) : IntKind.i64.wrap ((x : Int) * 3) = ((x * 3 : Nat) : Int) := by rw [wrap_in (by omega) (by omega)]; omega
theorem wrap_mul8 {x : Nat} (h : x ≤ 729) : IntKind.i64.wrap (8 * (x : Int)) = ((8 * x : Nat) : Int) := by rw [wrap_in (by omega) (by omega)]; omega
set_option maxRecDepth 100000 in
theorem con_lists (k : Nat) (h1 : 1 ≤ k) (h2 : k ≤ 6) : Con Tryz.prog 112 [vi k] [] fun r _ => r = vi ((3 ^ k : Nat) : Int) := by
  refine Con.intro Tryz.func112 rfl Tryz.ntmps112 Tryz.results112 (by kernel_rfl) (by simp) 0 (by simp) ?_
  have a1 : ¬ ((k : Int) < 1) := by omega
  have a2 : ¬ ((6 : Int) < k) := by omega
  simp only [go_sem, a1, a2]
  refine LoopK.intro (fun i : Nat => ⟨17, [(0, vi k), (3, vi ((3 ^ i : Nat) : Int)), (10, vi k), (11, vi i)], []⟩)
    (fun i => k - i) (fun i => i ≤ k) 0 (by omega) ?_ ?_
  · simp only [go_sem]
    exact leV_refl _
  rintro i hi
  by_cases h : i < k
  · have hw : IntKind.i64.wrap (i + 1) = i + 1 := wrap_in (by omega) (by omega)
    have hw2 : IntKind.i64.wrap (((3 ^ i : Nat) : Int) * 3) = ((3 ^ (i + 1) : Nat) : Int) := wrap_mul3 (pow3_le (by omega))
    simp only [go_sem, h, hw, hw2]
    refine roundK.intro (i + 1) (by omega) (by omega) ?_
    simp only [go_sem]
  · have e : i = k := by omega
    subst e
    simp only [go_sem, h]
set_option maxRecDepth 100000 in
theorem con_candidates (k : Nat) (h1 : 1 ≤ k) (h2 : k ≤ 6) : Con Tryz.prog 50 [vi k] [] fun r _ => r = vi ((8 * 3 ^ k : Nat) : Int) := by
  refine Con.intro Tryz.func50 rfl Tryz.ntmps50 Tryz.results50 (by kernel_rfl) (by simp) 0 (by simp) ?_
  simp only [go_sem]
  refine CallU.free (con_lists k h1 h2) (by simp only [go_sem]) (by simp only [go_sem]) ?_
  rintro r bx rfl
  have hw : IntKind.i64.wrap (8 * ((3 ^ k : Nat) : Int)) = ((8 * 3 ^ k : Nat) : Int) := wrap_mul8 (pow3_le h2)
  simp only [go_sem, hw]
theorem wrap_nat {x : Nat} (h : x ≤ 9223372036854775807) : IntKind.i64.wrap (x : Int) = (x : Int) := wrap_in (by omega) (by omega)
theorem digs_step {k c i : Nat} (h : i < k) : (digs k c).take (i + 1) = (digs k c).take i ++ [((c / 3 ^ i % 3 : Nat) : Int) - 1] := by
  rw [List.take_add_one, List.getElem?_eq_getElem (by rw [digs_len]; exact h), ← getElem!_pos _ _ (by rw [digs_len]; exact h), digs_at k c i h]; rfl
theorem dig_div {c i : Nat} (h : c ≤ 9223372036854775807) : IntKind.i64.wrap (Int.tdiv ((c / 3 ^ i : Nat) : Int) 3) = ((c / 3 ^ (i + 1) : Nat) : Int) := by
  have e : c / 3 ^ (i + 1) = c / 3 ^ i / 3 := by rw [Nat.pow_succ, Nat.div_div_eq_div_mul]
  rw [e]
  have h2 := Nat.div_le_self c (3 ^ i)
  revert h2
  generalize c / 3 ^ i = x
  intro h2
  exact wrap_nat (x := x / 3) (by omega)
theorem dig_mod {c : Nat} : IntKind.i64.wrap (Int.tmod (c : Int) 3 - 1) = ((c % 3 : Nat) : Int) - 1 := by
  show IntKind.i64.wrap (((c % 3 : Nat) : Int) - 1) = _
  exact wrap_in (by omega) (by omega)
theorem dig_round {k c i : Nat} (h : i < k) : (((digs k c).take i ++ List.replicate (k - i) 0).map vi).modify i (updElem 0 [.sc (.int .i64 (((c / 3 ^ i % 3 : Nat) : Int) - 1))]) = ((digs k c).take (i + 1) ++ List.replicate (k - (i + 1)) 0).map vi := by
  have hl : ((digs k c).take i).length = i := by rw [List.length_take, digs_len]; omega
  have e1 : List.replicate (k - i) (0 : Int) = 0 :: List.replicate (k - (i + 1)) 0 := by rw [show k - i = (k - (i + 1)) + 1 by omega, List.replicate_succ]
  rw [modify_vi, digs_step h, e1, List.set_append_right _ _ (by omega), hl, Nat.sub_self, List.set_cons_zero, List.append_assoc]
  rfl
set_option maxRecDepth 100000 in
set_option maxHeartbeats 1000000 in
theorem con_candidate (k n : Nat) (h1 : 1 ≤ k) (h2 : k ≤ 6) (hn : n < 8 * 3 ^ k) : Con Tryz.prog 51 [vi k, vi n] [] fun r _ => r = .tup [vs 2 (digs k (n % 3 ^ k)), vi (candMod k n), vb true] := by
  refine Con.intro Tryz.func51 rfl Tryz.ntmps51 Tryz.results51 (by kernel_rfl) (by simp) 0 (by simp) ?_
  have a1 : ¬ ((n : Int) < 0) := by omega
  have a2 : ¬ (((8 * 3 ^ k : Nat) : Int) ≤ (n : Int)) := by omega
  simp only [go_sem, a1]
  refine CallU.free (con_candidates k h1 h2) (by simp only [go_sem]) (by simp only [go_sem]) ?_
  rintro r bx rfl
  simp only [go_sem, a2]
  refine DrawK.walk 10 mixed (by kernel_rfl) ?_
  have hpos : 0 < 3 ^ k := Nat.pow_pos (by decide)
  have hz : ¬ ((3 ^ k : Nat) : Int) = 0 := by omega
  have hq : Int.tdiv (n : Int) ((3 ^ k : Nat) : Int) = ((n / 3 ^ k : Nat) : Int) := rfl
  have hm : Int.tmod (n : Int) ((3 ^ k : Nat) : Int) = ((n % 3 ^ k : Nat) : Int) := rfl
  simp only [go_sem]
  refine CallY.mk (con_lists k h1 h2) (by simp only [go_sem]) (by simp only [go_sem]) (.inl rfl) ?_
  simp only [go_sem, hz, hq]
  refine CallY.mk (con_lists k h1 h2) (by simp only [go_sem]) (by simp only [go_sem]) (.inl rfl) ?_
  simp only [go_sem, hz]
  have hlt : n / 3 ^ k < 8 := (Nat.div_lt_iff_lt_mul hpos).2 hn
  have hle := pow3_le h2
  have hml := Nat.mod_lt n hpos
  have hwq : IntKind.i64.wrap ((n / 3 ^ k : Nat) : Int) = ((n / 3 ^ k : Nat) : Int) := wrap_nat (Nat.le_trans (Nat.le_of_lt hlt) (by decide))
  have hwm : IntKind.i64.wrap ((n % 3 ^ k : Nat) : Int) = ((n % 3 ^ k : Nat) : Int) := wrap_nat (Nat.le_trans (Nat.le_of_lt hml) (Nat.le_trans hle (by decide)))
  have hw1 : IntKind.i64.wrap (((n / 3 ^ k : Nat) : Int) + 1) = ((n / 3 ^ k + 1 : Nat) : Int) := wrap_nat (x := n / 3 ^ k + 1) (Nat.le_trans (Nat.succ_le_succ (Nat.le_of_lt hlt)) (by decide))
  rcases Nat.eq_zero_or_pos (n / 3 ^ k) with h0 | h0
  · have e : candMod k n = 0 := by unfold candMod; rw [if_pos h0]
    have h3 : ¬ (0 : Int) < ((n / 3 ^ k : Nat) : Int) := by omega
    simp only [go_sem, hwq, hm, h3]
    refine ⟨by omega, by omega, by omega, ?_⟩
    rw [h0, e]
    refine LoopK.intro (fun i : Nat => ⟨49, [(0, vi k), (7, vi 0), (8, vi ((n % 3 ^ k / 3 ^ i : Nat) : Int)), (9, vs 2112 ((digs k (n % 3 ^ k)).take i ++ List.replicate (k - i) 0)), (34, vi k), (35, vi i)], []⟩)
      (fun i => k - i) (fun i => i ≤ k) 0 (by omega) ?_ ?_
    · simp only [go_sem, List.take_zero, List.nil_append, Nat.sub_zero, List.map_replicate, List.length_replicate, Nat.pow_zero, Nat.div_one]
      all_goals exact leV_refl _
    rintro i hi
    by_cases h : i < k
    · have hw : IntKind.i64.wrap (i + 1) = i + 1 := wrap_in (by omega) (by omega)
      have hc := Nat.div_le_self (n % 3 ^ k) (3 ^ i)
      have hr := dig_round (k := k) (c := n % 3 ^ k) h
      have hd := dig_div (c := n % 3 ^ k) (i := i) (by omega)
      have hm2 := dig_mod (c := n % 3 ^ k / 3 ^ i)
      have hlen : i < ((digs k (n % 3 ^ k)).take i ++ List.replicate (k - i) 0).length := by rw [List.length_append, List.length_take, digs_len, List.length_replicate]; omega
      simp only [go_sem, h, hw, hd, hm2, hr, hlen]
      refine roundK.intro (i + 1) (by omega) (by omega) ?_
      simp only [go_sem]
    · have e2 : i = k := by omega
      subst e2
      have e3 : (digs i (n % 3 ^ i)).take i ++ List.replicate (i - i) 0 = digs i (n % 3 ^ i) := by rw [List.take_of_length_le (by rw [digs_len]; exact Nat.le_refl _), Nat.sub_self]; simp
      simp only [go_sem, h, e3]
  · have e : candMod k n = n / 3 ^ k + 1 := by unfold candMod; rw [if_neg (by omega)]
    have h3 : (0 : Int) < ((n / 3 ^ k : Nat) : Int) := by omega
    simp only [go_sem, hwq, hm, h3, hw1]
    refine ⟨by omega, by omega, by omega, ?_⟩
    rw [e]
    refine LoopK.intro (fun i : Nat => ⟨49, [(0, vi k), (7, vi ((n / 3 ^ k + 1 : Nat) : Int)), (8, vi ((n % 3 ^ k / 3 ^ i : Nat) : Int)), (9, vs 2112 ((digs k (n % 3 ^ k)).take i ++ List.replicate (k - i) 0)), (34, vi k), (35, vi i)], []⟩)
      (fun i => k - i) (fun i => i ≤ k) 0 (by omega) ?_ ?_
    · simp only [go_sem, List.take_zero, List.nil_append, Nat.sub_zero, List.map_replicate, List.length_replicate, Nat.pow_zero, Nat.div_one]
      all_goals exact leV_refl _
    rintro i hi
    by_cases h : i < k
    · have hw : IntKind.i64.wrap (i + 1) = i + 1 := wrap_in (by omega) (by omega)
      have hc := Nat.div_le_self (n % 3 ^ k) (3 ^ i)
      have hr := dig_round (k := k) (c := n % 3 ^ k) h
      have hd := dig_div (c := n % 3 ^ k) (i := i) (by omega)
      have hm2 := dig_mod (c := n % 3 ^ k / 3 ^ i)
      have hlen : i < ((digs k (n % 3 ^ k)).take i ++ List.replicate (k - i) 0).length := by rw [List.length_append, List.length_take, digs_len, List.length_replicate]; omega
      simp only [go_sem, h, hw, hd, hm2, hr, hlen]
      refine roundK.intro (i + 1) (by omega) (by omega) ?_
      simp only [go_sem]
    · have e2 : i = k := by omega
      subst e2
      have e3 : (digs i (n % 3 ^ i)).take i ++ List.replicate (i - i) 0 = digs i (n % 3 ^ i) := by rw [List.take_of_length_le (by rw [digs_len]; exact Nat.le_refl _), Nat.sub_self]; simp
      simp only [go_sem, h, e3]
end Go.AM

/-! ## CmE -/
namespace Go.AM
open Go Go.Proofs Go.RowKit

set_option maxRecDepth 100000 in
theorem con_between (x low high : Int) : Con Tryz.prog 162 [vi x, vi low, vi high] [] fun r _ => r = vb (betweenB x low high) := by
  refine Con.intro Tryz.func162 rfl Tryz.ntmps162 Tryz.results162 (by kernel_rfl) (by simp) 0 (by simp) ?_
  unfold betweenB
  by_cases h1 : low ≤ x
  · by_cases h2 : x ≤ high
    · simp only [go_sem, h1, h2, Bool.and_true]
    · simp only [go_sem, h1, h2, Bool.and_false]
  · simp only [go_sem, h1, Bool.false_and]
set_option maxRecDepth 100000 in
theorem con_index (x : Int) (n : Int) (h1 : 0 ≤ n) (h2 : n ≤ 9223372036854775807) : Con Tryz.prog 209 [vi x, vi n] [] fun r _ => r = vb (decide (0 ≤ x) && decide (x < n)) := by
  refine Con.intro Tryz.func209 rfl Tryz.ntmps209 Tryz.results209 (by kernel_rfl) (by simp) 0 (by simp) ?_
  have hw : IntKind.i64.wrap (n - 1) = n - 1 := wrap_in (by omega) (by omega)
  have e : betweenB x 0 (n - 1) = (decide (0 ≤ x) && decide (x < n)) := by
    unfold betweenB
    congr 1
    exact decide_eq_decide.2 (by omega)
  simp only [go_sem, hw]
  refine CallU.free (con_between x 0 (n - 1)) (by simp only [go_sem]) (by simp only [go_sem]) ?_
  rintro r bx rfl
  simp only [go_sem, e]
set_option maxRecDepth 100000 in
theorem con_rest (n m : Int) (hm : 0 < m) (hm2 : m ≤ 1048576) : Con Tryz.prog 101 [vi n, vi m] [] fun r _ => r = vi (restF n m) := by
  refine Con.intro Tryz.func101 rfl Tryz.ntmps101 Tryz.results101 (by kernel_rfl) (by simp) 0 (by simp) ?_
  have hz : ¬ m = 0 := by omega
  have b1 := Int.lt_tmod_of_pos n hm
  have b2 := Int.tmod_lt_of_pos n hm
  have hw1 : IntKind.i64.wrap (Int.tmod n m) = Int.tmod n m := wrap_in (by omega) (by omega)
  have hw2 : IntKind.i64.wrap (Int.tmod n m + m) = Int.tmod n m + m := wrap_in (by omega) (by omega)
  have b3 := Int.lt_tmod_of_pos (Int.tmod n m + m) hm
  have b4 := Int.tmod_lt_of_pos (Int.tmod n m + m) hm
  have hw3 : IntKind.i64.wrap (Int.tmod (Int.tmod n m + m) m) = Int.tmod (Int.tmod n m + m) m := wrap_in (by omega) (by omega)
  simp only [go_sem, hz, hw2, restF]

theorem sum_take : ∀ {c v : List Int} {i : Nat}, i < c.length → i < v.length → sumF (c.take (i + 1)) (v.take (i + 1)) = sumF (c.take i) (v.take i) + c[i]! * v[i]!
  | c :: cs, v :: vs, 0, _, _ => by simp [sumF]
  | c :: cs, v :: vs, i + 1, h1, h2 => by
    rw [List.take_succ_cons, List.take_succ_cons, List.take_succ_cons, List.take_succ_cons, sumF, sumF, sum_take (by simpa using h1) (by simpa using h2), List.getElem!_cons_succ, List.getElem!_cons_succ]
    omega
  | [], _, _, h, _ => by simp at h
  | _ :: _, [], _, _, h => by simp at h
theorem sum_cut : ∀ {c v : List Int}, c.length ≤ v.length → sumF c (v.take c.length) = sumF c v
  | [], _, _ => rfl
  | c :: cs, v :: vs, h => by rw [List.length_cons, List.take_succ_cons, sumF, sumF, sum_cut (by simpa using h)]
  | _ :: _, [], h => by simp at h
/-- small enough -/
def SmallI (B : Int) (l : List Int) : Prop := ∀ x ∈ l, -B ≤ x ∧ x ≤ B
theorem mul_small {c x : Int} (hc : -4 ≤ c ∧ c ≤ 4) (hx : -1048576 ≤ x ∧ x ≤ 1048576) : -4194304 ≤ c * x ∧ c * x ≤ 4194304 := by
  obtain h | h | h | h | h | h | h | h | h : c = -4 ∨ c = -3 ∨ c = -2 ∨ c = -1 ∨ c = 0 ∨ c = 1 ∨ c = 2 ∨ c = 3 ∨ c = 4 := by omega
  all_goals (subst h; omega)
theorem sum_small : ∀ {c v : List Int}, SmallI 4 c → SmallI 1048576 v → -(4194304 * (c.length : Int)) ≤ sumF c v ∧ sumF c v ≤ 4194304 * c.length
  | [], v, _, _ => by simp [sumF]
  | c :: cs, [], _, _ => by simp only [sumF, List.length_cons]; omega
  | c :: cs, x :: vs, h1, h2 => by
    have h3 := sum_small (c := cs) (v := vs) (fun y hy => h1 y (List.mem_cons_of_mem _ hy)) (fun y hy => h2 y (List.mem_cons_of_mem _ hy))
    have h4 := mul_small (h1 c (List.mem_cons_self ..)) (h2 x (List.mem_cons_self ..))
    simp only [sumF, List.length_cons]; omega
set_option maxRecDepth 100000 in
theorem con_sum (c v : List Int) (hl : c.length ≤ v.length) (h6 : c.length ≤ 1000000) (hc : SmallI 4 c) (hv : SmallI 1048576 v) : Con Tryz.prog 99 [vs 0 c, vs 0 v] [] fun r _ => r = vi (sumF c v) := by
  refine Con.intro Tryz.func99 rfl Tryz.ntmps99 Tryz.results99 (by kernel_rfl) (by simp) 0 (by simp) ?_
  simp only [go_sem]
  refine LoopK.intro (fun i : Nat => ⟨25, [(1, vs 0 v), (5, vi (sumF (c.take i) (v.take i))), (8, vs 0 c), (9, vi c.length), (10, vi i)], []⟩)
    (fun i => c.length - i) (fun i => i ≤ c.length) 0 (by omega) ?_ ?_
  · simp only [go_sem, List.take_zero]
    all_goals exact leV_refl _
  rintro i hi
  by_cases h : i < c.length
  · have h2 : i < v.length := by omega
    have g1 := getv h
    have g2 := getv h2
    have hw : IntKind.i64.wrap (i + 1) = i + 1 := wrap_in (by omega) (by omega)
    have m1 := mul_small (hc _ (mem_bang h)) (hv _ (mem_bang h2))
    have hw1 : IntKind.i64.wrap (c[i]! * v[i]!) = c[i]! * v[i]! := wrap_in (by omega) (by omega)
    have m2 := sum_small (c := c.take (i + 1)) (v := v.take (i + 1)) (fun y hy => hc y (List.mem_of_mem_take hy)) (fun y hy => hv y (List.mem_of_mem_take hy))
    have e := sum_take h h2
    have m3 : ((c.take (i + 1)).length : Int) ≤ 1000000 := by rw [List.length_take]; omega
    have hw2 : IntKind.i64.wrap (sumF (c.take i) (v.take i) + c[i]! * v[i]!) = sumF (c.take (i + 1)) (v.take (i + 1)) := by rw [← e]; exact wrap_in (by omega) (by omega)
    simp only [go_sem, h, h2, g1, g2, hw, hw1, hw2]
    refine roundK.intro (i + 1) (by omega) (by omega) ?_
    simp only [go_sem]
  · have hi2 : i = c.length := by omega
    have e : sumF (c.take i) (v.take i) = sumF c v := by rw [hi2, List.take_length]; exact sum_cut hl
    simp only [go_sem, h, e]
end Go.AM

/-! ## CmF -/
namespace Go.AM
open Go Go.Proofs Go.RowKit

def vAtom (a : AtomD) : AV := .ag [vs 0 a.coefs, vi a.mod, vs 0 a.values]
attribute [go_sem] vAtom
set_option maxRecDepth 100000 in
theorem con_follows (a : AtomD) (n : Int) (s : Nat) (hs : s < a.values.length) (hm : 0 ≤ a.mod) (hm2 : a.mod ≤ 8) : Con Tryz.prog 154 [vAtom a, vi n, vi s] [] fun r _ => r = vb (followsF a n s) := by
  refine Con.intro Tryz.func154 rfl Tryz.ntmps154 Tryz.results154 (by kernel_rfl) (by simp) 0 (by simp) ?_
  have g := getv hs
  by_cases h1 : a.values[s]! = 1099511627776
  · have e : followsF a n s = false := by unfold followsF omegaI; rw [if_pos h1]
    simp only [go_sem, hs, g, h1, e]
  have h1' : (a.values[s]! == 1099511627776) = false := beq_eq_false_iff_ne.2 h1
  by_cases h2 : a.mod = 0
  · have e : followsF a n s = decide (a.values[s]! ≤ n) := by unfold followsF omegaI; rw [if_neg h1, if_pos h2]
    simp only [go_sem, hs, g, h1', h2, e]
  · have e : followsF a n s = (restF n a.mod == a.values[s]!) := by unfold followsF omegaI; rw [if_neg h1, if_neg h2]
    have h2' : (a.mod == 0) = false := beq_eq_false_iff_ne.2 h2
    simp only [go_sem, hs, g, h1', h2']
    refine CallU.free (con_rest n a.mod (by omega) (by omega)) (by simp only [go_sem]) (by simp only [go_sem]) ?_
    rintro r bx rfl
    simp only [go_sem, e]
end Go.AM

/-! ## CmG -/
namespace Go.AM
open Go Go.Proofs Go.RowKit

set_option maxRecDepth 100000 in
theorem con_numbers (n : Int) (x : CV) (l : List CV) (hl : l.length ≤ 1000000) : Con Tryz.prog 100 [.ag [vi n, .sl 0 2 ((x :: l).map vV)]] [] fun r _ => r = vs 2 (l.map CV.n) := by
  refine Con.intro Tryz.func100 rfl Tryz.ntmps100 Tryz.results100 (by kernel_rfl) (by simp) 0 (by simp) ?_
  have hd : (1 : Nat) ≤ (x :: l).length := by simp
  have ht : List.take l.length (l.map vV) = l.map vV := List.take_of_length_le (by simp)
  simp only [go_sem, List.map_cons]
  refine ⟨Nat.le_refl _, ?_⟩
  rw [ht]
  refine LoopK.intro (fun i : Nat => ⟨21, [(3, vs 1216 ((l.take i).map CV.n)), (8, .sl 0 2 (l.map vV)), (9, vi l.length), (10, vi i)], [vi n, .sl 0 2 ((x :: l).map vV)] :: Rk 2 i⟩)
    (fun i => l.length - i) (fun i => i ≤ l.length) 0 (by omega) ?_ ?_
  · simp only [go_sem]
    all_goals exact leB_self _
  rintro i hi
  by_cases h : i < l.length
  · have hg := getvV h
    have hw : IntKind.i64.wrap (i + 1) = i + 1 := wrap_in (by omega) (by omega)
    have hB := Rk_len 2 i
    have n0 := fun L : List (List AV) => app_at0 (L := L) hB
    have s0 := fun (L : List (List AV)) z => app_set0 (L := L) (z := z) hB
    have e : (l.take (i + 1)).map CV.n = (l.take i).map CV.n ++ [l[i]!.n] := by
      rw [List.take_add_one, List.getElem?_eq_getElem h, getElem!_pos l i h, List.map_append]; rfl
    simp only [go_sem, h, hg, hw, hB, n0, s0]
    refine ⟨by unfold roomFor; rw [List.length_take]; omega, ?_⟩
    refine roundK.intro (i + 1) (by omega) (by omega) ?_
    simp only [go_sem, Rk_succ, e]
    refine ⟨?_, leB_RkA (x := [[_, _]]) (y := [List.replicate 2 .any]) ⟨⟨leV_any _, leV_any _, trivial⟩, trivial⟩⟩
    rw [List.map_append, List.map_map]
    exact leV_refl _
  · have hi2 : i = l.length := by omega
    have e2 : l.take i = l := by rw [hi2, List.take_length]
    simp only [go_sem, h, e2]
end Go.AM

/-! ## CmH -/
namespace Go.AM
open Go Go.Proofs Go.RowKit

def u8v (c : UInt8) : AV := .sc (.int .u8 c.toNat)
attribute [go_sem] u8v vStr vss
theorem u8_low {k c : UInt8} {n : Nat} (h : k.toNat = n) : k ≤ c ↔ (n : Int) ≤ (c.toNat : Int) := UInt8.le_iff_toNat_le.trans (by rw [h]; omega)
theorem u8_high {k c : UInt8} {n : Nat} (h : k.toNat = n) : c ≤ k ↔ (c.toNat : Int) ≤ (n : Int) := UInt8.le_iff_toNat_le.trans (by rw [h]; omega)
theorem letterB_eq (c : UInt8) : letterB c = (decide ((97 : Int) ≤ (c.toNat : Int)) && decide ((c.toNat : Int) ≤ 122)) := by
  unfold letterB
  rw [decide_eq_decide.2 (u8_low (k := 97) (c := c) (n := 97) rfl), decide_eq_decide.2 (u8_high (k := 122) (c := c) (n := 122) rfl)]; rfl
theorem digitB_eq (c : UInt8) : digitB c = (decide ((48 : Int) ≤ (c.toNat : Int)) && decide ((c.toNat : Int) ≤ 57)) := by
  unfold digitB
  rw [decide_eq_decide.2 (u8_low (k := 48) (c := c) (n := 48) rfl), decide_eq_decide.2 (u8_high (k := 57) (c := c) (n := 57) rfl)]; rfl
theorem u8_eq {k c : UInt8} {n : Nat} (h : k.toNat = n) : (c == k) = (((c.toNat : Int)) == (n : Int)) := by
  rw [Bool.eq_iff_iff, beq_iff_eq, beq_iff_eq, ← UInt8.toNat_inj, h]; omega

set_option maxRecDepth 100000 in
theorem con_letter (c : UInt8) : Con Tryz.prog 235 [u8v c] [] fun r _ => r = vb (letterB c) := by
  refine Con.intro Tryz.func235 rfl Tryz.ntmps235 Tryz.results235 (by kernel_rfl) (by simp) 0 (by simp) ?_
  rw [letterB_eq]
  by_cases h1 : (97 : Int) ≤ (c.toNat : Int)
  · by_cases h2 : (c.toNat : Int) ≤ 122
    · simp only [go_sem, h1, h2, Bool.and_true]
    · simp only [go_sem, h1, h2, Bool.and_false]
  · simp only [go_sem, h1, Bool.false_and]
set_option maxRecDepth 100000 in
theorem con_digit (c : UInt8) : Con Tryz.prog 257 [u8v c] [] fun r _ => r = vb (digitB c) := by
  refine Con.intro Tryz.func257 rfl Tryz.ntmps257 Tryz.results257 (by kernel_rfl) (by simp) 0 (by simp) ?_
  rw [digitB_eq]
  by_cases h1 : (48 : Int) ≤ (c.toNat : Int)
  · by_cases h2 : (c.toNat : Int) ≤ 57
    · simp only [go_sem, h1, h2, Bool.and_true]
    · simp only [go_sem, h1, h2, Bool.and_false]
  · simp only [go_sem, h1, Bool.false_and]
set_option maxRecDepth 100000 in
theorem con_part (c : UInt8) : Con Tryz.prog 237 [u8v c] [] fun r _ => r = vb (partB c) := by
  refine Con.intro Tryz.func237 rfl Tryz.ntmps237 Tryz.results237 (by kernel_rfl) (by simp) 0 (by simp) ?_
  unfold partB
  rw [u8_eq (k := 95) (c := c) (n := 95) rfl]
  simp only [go_sem]
  refine CallU.free (con_letter c) (by simp only [go_sem]) (by simp only [go_sem]) ?_
  rintro r bx rfl
  cases h1 : letterB c
  · simp only [go_sem]
    refine CallU.free (con_digit c) (by simp only [go_sem]) (by simp only [go_sem]) ?_
    rintro r bx rfl
    cases h2 : digitB c
    · simp only [go_sem]
      all_goals simp
    · simp only [go_sem]
      all_goals simp
  · simp only [go_sem]
    all_goals simp

/-- how many bytes at the beginning p holds of -/
def runL (p : UInt8 → Bool) (l : List UInt8) : Nat := (l.takeWhile p).length
theorem run_stop {p : UInt8 → Bool} : ∀ {l : List UInt8} {i : Nat}, (∀ j, j < i → p l[j]! = true) → i ≤ l.length → (i < l.length → p l[i]! = false) → runL p l = i
  | [], i, _, h2, _ => by simp at h2; subst h2; rfl
  | x :: l, 0, _, _, h3 => by
    have := h3 (by simp)
    simp at this
    simp [runL, this]
  | x :: l, i + 1, h1, h2, h3 => by
    have hx := h1 0 (by omega)
    simp at hx
    have := run_stop (p := p) (l := l) (i := i) (fun j hj => by simpa using h1 (j + 1) (by omega)) (by simpa using h2) (fun h => by simpa using h3 (by simpa using h))
    unfold runL at *
    rw [List.takeWhile_cons, hx, if_pos rfl, List.length_cons, this]
theorem run_all {p : UInt8 → Bool} {l : List UInt8} : (runL p l == l.length) = l.all p := by
  unfold runL
  induction l with
  | nil => rfl
  | cons x l ih =>
    cases h : p x
    · simp [h]
    · simp only [List.takeWhile_cons, h, if_true, List.length_cons, List.all_cons, Bool.true_and]
      rw [← ih]
      rw [Bool.eq_iff_iff]; simp
theorem ba_get {s : ByteArray} {i : Nat} (h : i < s.size) : s[i]? = some s.data.toList[i]! := by
  rw [getElem?_pos s i h]
  congr 1
  have h2 : i < s.data.toList.length := by simpa using h
  rw [getElem!_pos s.data.toList i h2, Array.getElem_toList]; rfl
theorem ba_len (s : ByteArray) : s.data.toList.length = s.size := Array.length_toList
set_option maxRecDepth 100000 in
theorem con_run (s : ByteArray) (f : FuncId) (p : UInt8 → Bool) (hf : ∀ c, Con Tryz.prog f [u8v c] [] fun r _ => r = vb (p c)) (hs : s.size ≤ 9223372036854775806) : Con Tryz.prog 236 [vStr s, .fn f []] [] fun r _ => r = vi (runL p s.data.toList) := by
  refine Con.intro Tryz.func236 rfl Tryz.ntmps236 Tryz.results236 (by kernel_rfl) (by simp) 0 (by simp) ?_
  simp only [go_sem]
  refine LoopK.intro (fun i : Nat => ⟨20, [(0, vStr s), (1, .fn f []), (4, vi 0), (5, vi i)], []⟩)
    (fun i => s.size - i) (fun i => i ≤ s.size ∧ ∀ j, j < i → p s.data.toList[j]! = true) 0 ⟨by omega, fun j hj => by omega⟩ ?_ ?_
  · simp only [go_sem]
    all_goals exact leV_refl _
  rintro i ⟨hi, hb⟩
  by_cases h : i < s.size
  · have hg := ba_get h
    have hw : IntKind.i64.wrap (i + 1) = i + 1 := wrap_in (by omega) (by omega)
    simp only [go_sem, h, hg]
    refine CallU.free (hf s.data.toList[i]!) (by simp only [go_sem]) (by simp only [go_sem]) ?_
    rintro r bx rfl
    cases hp : p s.data.toList[i]!
    · simp only [go_sem]
      rw [run_stop hb (by rw [ba_len]; exact hi) (fun _ => hp)]
    · simp only [go_sem, hw]
      refine roundK.intro (i + 1) ⟨by omega, fun j hj => ?_⟩ (by omega) ?_
      · by_cases hji : j = i
        · subst hji; exact hp
        · exact hb j (by omega)
      · simp only [go_sem]
  · simp only [go_sem, h]
    rw [run_stop hb (by rw [ba_len]; exact hi) (fun h' => absurd (by rw [ba_len] at h'; exact h') h)]
theorem size_zero {s : ByteArray} : (s.toList == ByteArray.toList { data := #[] }) = decide (s.size = 0) := by
  rw [ByteArray.toList_eq, ByteArray.toList_eq, ← ba_len]
  cases h : s.data.toList <;> simp
set_option maxRecDepth 100000 in
theorem con_word (s : ByteArray) (hs : s.size ≤ 9223372036854775806) : Con Tryz.prog 206 [vStr s] [] fun r _ => r = vb (wordB s) := by
  refine Con.intro Tryz.func206 rfl Tryz.ntmps206 Tryz.results206 (by kernel_rfl) (by simp) 0 (by simp) ?_
  have e : wordB s = (decide (0 < s.size) && decide (s.size ≤ 12) && letterB s.data.toList[0]! && (runL partB s.data.toList == s.data.toList.length)) := by
    rw [run_all]
    unfold wordB
    rw [ByteArray.toList_eq]
    by_cases h0 : 0 < s.size
    · have h2 := ba_get h0
      congr 2
      rw [show s.get! 0 = s.data.toList[0]! from ?_]
      have h3 : 0 < s.data.toList.length := by rw [ba_len]; exact h0
      rw [getElem!_pos s.data.toList 0 h3, Array.getElem_toList]
      show s.data[0]! = _
      rw [getElem!_pos s.data 0 h0]
    · rw [decide_eq_false h0]; simp
  rw [e]
  by_cases h0 : 0 < s.size
  · have h0' : ¬ s.size = 0 := by omega
    have hg := ba_get h0
    by_cases h1 : (s.size : Int) ≤ 12
    · have h1' : s.size ≤ 12 := by omega
      simp only [go_sem, size_zero, h0', h1]
      simp only [go_sem, hg]
      refine CallU.free (con_letter s.data.toList[0]!) (by simp only [go_sem]) (by simp only [go_sem]) ?_
      rintro r bx rfl
      cases h2 : letterB s.data.toList[0]!
      · simp only [go_sem]
        all_goals simp
      · simp only [go_sem]
        refine CallU.free (con_run s 237 partB con_part hs) (by simp only [go_sem]) (by simp only [go_sem]) ?_
        rintro r bx rfl
        simp only [go_sem, ba_len, h0, h1', decide_true, Bool.true_and]
        all_goals congr 2
    · have h1' : ¬ s.size ≤ 12 := by omega
      simp only [go_sem, size_zero, h0', h1, h1']
      all_goals simp
  · have h0' : s.size = 0 := by omega
    simp only [go_sem, size_zero, h0']
    all_goals simp
end Go.AM

/-! ## CmI -/
namespace Go.AM
open Go Go.Proofs Go.RowKit

theorem mem_bangI {α : Type} [Inhabited α] {l : List α} {i : Nat} (h : i < l.length) : l[i]! ∈ l := by rw [getElem!_pos l i h]; exact List.getElem_mem h

/-- a function value that tells by p, one call at a time -/
def TellsI (f : FuncId) (caps : List AV) (l : List Int) (p : Int → Bool) : Prop := ∀ x ∈ l, Con Tryz.prog f ([vi x] ++ caps) [] fun r _ => r = .sc (.bool (p x))
set_option maxRecDepth 100000 in
theorem con_indexInt (l : List Int) (f : FuncId) (caps : List AV) (p : Int → Bool) (hc : mapTops (viewV []) caps = caps) (hf : TellsI f caps l p) (hl : l.length ≤ 9223372036854775806) : Con Tryz.prog 138 [vs 0 l, .fn f caps] [] fun r _ => r = vi (findI p l) := by
  refine Con.intro Tryz.func138 rfl Tryz.ntmps138 Tryz.results138 (by kernel_rfl) (by simp) 0 (by simp) ?_
  simp only [go_sem]
  refine LoopK.intro (fun i : Nat => ⟨19, [(0, vs 0 l), (1, .fn f caps), (7, vi l.length), (8, vi i)], []⟩)
    (fun i => l.length - i) (fun i => i ≤ l.length ∧ ∀ j, j < i → p l[j]! = false) 0 ⟨by omega, fun j hj => by omega⟩ ?_ ?_
  · simp only [go_sem]
    all_goals exact leV_refl _
  · rintro i ⟨hi, hb⟩
    by_cases h : i < l.length
    · have hg := getv h
      have hw : IntKind.i64.wrap (i + 1) = i + 1 := wrap_in (by omega) (by omega)
      simp only [go_sem, h, hg]
      refine CallU.look (hf l[i]! (mem_bangI h)) (by simp only [go_sem]) (by simp only [go_sem, hc]) ?_
      rintro r bx rfl
      cases hp : p l[i]!
      · simp only [go_sem, hw]
        refine roundK.intro (i + 1) ⟨by omega, fun j hj => ?_⟩ (by omega) ?_
        · by_cases hji : j = i
          · subst hji; exact hp
          · exact hb j (by omega)
        · simp only [go_sem]
      · simp only [go_sem]
        rw [findI_stop h hb hp]
    · simp only [go_sem, h]
      rw [findI_none (fun j hj => hb j (by omega))]
set_option maxRecDepth 100000 in
theorem con_containsInt (l : List Int) (f : FuncId) (caps : List AV) (p : Int → Bool) (hc : mapTops (viewV []) caps = caps) (hf : TellsI f caps l p) (hl : l.length ≤ 9223372036854775806) : Con Tryz.prog 78 [vs 0 l, .fn f caps] [] fun r _ => r = .sc (.bool (l.any p)) := by
  refine Con.intro Tryz.func78 rfl Tryz.ntmps78 Tryz.results78 (by kernel_rfl) (by simp) 0 (by simp) ?_
  simp only [go_sem]
  refine CallU.look (con_indexInt l f caps p hc hf hl) (by simp only [go_sem]) (by simp only [go_sem]) ?_
  rintro r bx rfl
  simp only [go_sem, findI_ge]

/-- rules -/
def TellsR (f : FuncId) (caps : List AV) (l : List RD) (p : RD → Bool) : Prop := ∀ x ∈ l, Con Tryz.prog f ([vRule x] ++ caps) [] fun r _ => r = .sc (.bool (p x))
attribute [go_sem] vRule
set_option maxRecDepth 100000 in
theorem con_indexRule (l : List RD) (f : FuncId) (caps : List AV) (p : RD → Bool) (hc : mapTops (viewV []) caps = caps) (hf : TellsR f caps l p) (hl : l.length ≤ 9223372036854775806) : Con Tryz.prog 208 [.sl 0 14 (l.map vRule), .fn f caps] [] fun r _ => r = vi (findI p l) := by
  refine Con.intro Tryz.func208 rfl Tryz.ntmps208 Tryz.results208 (by kernel_rfl) (by simp) 0 (by simp) ?_
  simp only [go_sem]
  refine LoopK.intro (fun i : Nat => ⟨19, [(0, .sl 0 14 (l.map vRule)), (1, .fn f caps), (7, vi l.length), (8, vi i)], []⟩)
    (fun i => l.length - i) (fun i => i ≤ l.length ∧ ∀ j, j < i → p l[j]! = false) 0 ⟨by omega, fun j hj => by omega⟩ ?_ ?_
  · simp only [go_sem]
    all_goals exact leV_refl _
  · rintro i ⟨hi, hb⟩
    by_cases h : i < l.length
    · have hg := getRule h
      have hw : IntKind.i64.wrap (i + 1) = i + 1 := wrap_in (by omega) (by omega)
      simp only [go_sem, h, hg]
      refine CallU.look (hf l[i]! (mem_bangI h)) (by simp only [go_sem]) (by simp only [go_sem, hc]) ?_
      rintro r bx rfl
      cases hp : p l[i]!
      · simp only [go_sem, hw]
        refine roundK.intro (i + 1) ⟨by omega, fun j hj => ?_⟩ (by omega) ?_
        · by_cases hji : j = i
          · subst hji; exact hp
          · exact hb j (by omega)
        · simp only [go_sem]
      · simp only [go_sem]
        rw [findI_stop h hb hp]
    · simp only [go_sem, h]
      rw [findI_none (fun j hj => hb j (by omega))]
set_option maxRecDepth 100000 in
theorem con_containsRule (l : List RD) (f : FuncId) (caps : List AV) (p : RD → Bool) (hc : mapTops (viewV []) caps = caps) (hf : TellsR f caps l p) (hl : l.length ≤ 9223372036854775806) : Con Tryz.prog 166 [.sl 0 14 (l.map vRule), .fn f caps] [] fun r _ => r = .sc (.bool (l.any p)) := by
  refine Con.intro Tryz.func166 rfl Tryz.ntmps166 Tryz.results166 (by kernel_rfl) (by simp) 0 (by simp) ?_
  simp only [go_sem]
  refine CallU.look (con_indexRule l f caps p hc hf hl) (by simp only [go_sem]) (by simp only [go_sem]) ?_
  rintro r bx rfl
  simp only [go_sem, findI_ge]

set_option maxRecDepth 100000 in
theorem con_all1 (x : Int) (g : FuncId) (caps : List AV) (p : Int → Bool) (hc : mapTops (viewV []) caps = caps) (hf : Con Tryz.prog g ([vi x] ++ caps) [] fun r _ => r = .sc (.bool (p x))) : Con Tryz.prog 246 [vi x, .fp [.fn g caps] 0] [] fun r _ => r = .sc (.bool (!p x)) := by
  refine Con.intro Tryz.func246 rfl Tryz.ntmps246 Tryz.results246 (by kernel_rfl) (by simp) 0 (by simp) ?_
  simp only [go_sem]
  refine CallU.look hf (by simp only [go_sem]) (by simp only [go_sem, hc]) ?_
  rintro r bx rfl
  simp only [go_sem]
theorem any_not {α : Type} (p : α → Bool) : ∀ l : List α, (!l.any fun x => !p x) = l.all p
  | [] => rfl
  | x :: l => by rw [List.any_cons, List.all_cons, ← any_not p l]; cases p x <;> simp
set_option maxRecDepth 100000 in
theorem con_all (l : List Int) (g : FuncId) (caps : List AV) (p : Int → Bool) (hc : mapTops (viewV []) caps = caps) (hf : TellsI g caps l p) (hl : l.length ≤ 9223372036854775806) : Con Tryz.prog 215 [vs 0 l, .fn g caps] [] fun r _ => r = .sc (.bool (l.all p)) := by
  refine Con.intro Tryz.func215 rfl Tryz.ntmps215 Tryz.results215 (by kernel_rfl) (by simp) 1 (by simp) ?_
  simp only [go_sem]
  refine CallU.look (con_containsInt l 246 [.fp [.fn g caps] 0] (fun x => !p x) (by simp only [go_sem]) (fun x hx => con_all1 x g caps p hc (hf x hx)) hl) (by simp only [go_sem]) (by simp only [go_sem]) ?_
  rintro r bx rfl
  simp only [go_sem, any_not]

theorem beq_cut {a b : List Int} (h : a.length ≠ b.length) : (a == b) = false := by
  rw [beq_eq_false_iff_ne]; intro e; rw [e] at h; exact h rfl
theorem eqI_stop {a b : List Int} {i : Nat} (h : a[i]! ≠ b[i]!) : (a == b) = false := by
  rw [beq_eq_false_iff_ne]; intro e; rw [e] at h; exact h rfl
theorem eqI_all {a b : List Int} (hl : a.length = b.length) (h : ∀ j, j < a.length → a[j]! = b[j]!) : (a == b) = true := by
  rw [beq_iff_eq]
  apply List.ext_getElem hl
  intro i h1 h2
  have := h i h1
  rw [getElem!_pos a i h1, getElem!_pos b i h2] at this; exact this
set_option maxRecDepth 100000 in
theorem con_equalInt (a b : List Int) (hl : a.length ≤ 9223372036854775806) : Con Tryz.prog 76 [vs 0 a, vs 0 b] [] fun r _ => r = .sc (.bool (a == b)) := by
  refine Con.intro Tryz.func76 rfl Tryz.ntmps76 Tryz.results76 (by kernel_rfl) (by simp) 0 (by simp) ?_
  by_cases he : a.length = b.length
  case neg =>
    have he' : ((a.length : Int) != (b.length : Int)) = true := bne_iff_ne.2 (by omega)
    simp only [go_sem, he', beq_cut he]
  simp only [go_sem, he]
  refine LoopK.intro (fun i : Nat => ⟨26, [(0, vs 0 a), (1, vs 0 b), (12, vi a.length), (13, vi i)], []⟩)
    (fun i => a.length - i) (fun i => i ≤ a.length ∧ ∀ j, j < i → a[j]! = b[j]!) 0 ⟨by omega, fun j hj => by omega⟩ ?_ ?_
  · simp only [go_sem, he]
    all_goals exact leV_refl _
  rintro i ⟨hi, hb⟩
  by_cases h : i < a.length
  · have h2 : i < b.length := by omega
    have g1 := getv h
    have g2 := getv h2
    have hw : IntKind.i64.wrap (i + 1) = i + 1 := wrap_in (by omega) (by omega)
    simp only [go_sem, h]
    refine DrawK.walk 9 mixed (by kernel_rfl) ?_
    by_cases hp : a[i]! = b[i]!
    · simp only [go_sem, h, h2, g1, g2, hp, hw]
      refine roundK.intro (i + 1) ⟨by omega, fun j hj => ?_⟩ (by omega) ?_
      · by_cases hji : j = i
        · subst hji; exact hp
        · exact hb j (by omega)
      · simp only [go_sem]
    · have hp' : (a[i]! != b[i]!) = true := bne_iff_ne.2 hp
      simp only [go_sem, h, h2, g1, g2, hp']
      rw [eqI_stop hp]
  · simp only [go_sem, h]
    rw [eqI_all he (fun j hj => hb j (by omega))]
end Go.AM

/-! ## CmJ -/
namespace Go.AM
open Go Go.Proofs Go.RowKit

set_option maxRecDepth 100000 in
theorem con_indexStr (l : List ByteArray) (v : ByteArray) (hl : l.length ≤ 9223372036854775806) : Con Tryz.prog 258 [vss l, vStr v] [] fun r _ => r = vi (findI (fun x => v.toList == x.toList) l) := by
  refine Con.intro Tryz.func258 rfl Tryz.ntmps258 Tryz.results258 (by kernel_rfl) (by simp) 0 (by simp) ?_
  simp only [go_sem]
  refine LoopK.intro (fun i : Nat => ⟨19, [(0, vss l), (1, vStr v), (7, vi l.length), (8, vi i)], []⟩)
    (fun i => l.length - i) (fun i => i ≤ l.length ∧ ∀ j, j < i → (v.toList == l[j]!.toList) = false) 0 ⟨by omega, fun j hj => by omega⟩ ?_ ?_
  · simp only [go_sem]
    all_goals exact leV_refl _
  · rintro i ⟨hi, hb⟩
    by_cases h : i < l.length
    · have hg := getStr h
      have hw : IntKind.i64.wrap (i + 1) = i + 1 := wrap_in (by omega) (by omega)
      cases hp : (v.toList == l[i]!.toList)
      · simp only [go_sem, h, hg, hp, hw]
        refine roundK.intro (i + 1) ⟨by omega, fun j hj => ?_⟩ (by omega) ?_
        · by_cases hji : j = i
          · subst hji; exact hp
          · exact hb j (by omega)
        · simp only [go_sem]
      · simp only [go_sem, h, hg, hp]
        rw [findI_stop (p := fun x : ByteArray => v.toList == x.toList) h hb hp]
    · simp only [go_sem, h]
      rw [findI_none (p := fun x : ByteArray => v.toList == x.toList) (fun j hj => hb j (by omega))]
set_option maxRecDepth 100000 in
theorem con_containsStr (l : List ByteArray) (v : ByteArray) (hl : l.length ≤ 9223372036854775806) : Con Tryz.prog 238 [vss l, vStr v] [] fun r _ => r = .sc (.bool (l.any fun x => v.toList == x.toList)) := by
  refine Con.intro Tryz.func238 rfl Tryz.ntmps238 Tryz.results238 (by kernel_rfl) (by simp) 0 (by simp) ?_
  simp only [go_sem]
  refine CallU.free (con_indexStr l v hl) (by simp only [go_sem]) (by simp only [go_sem]) ?_
  rintro r bx rfl
  simp only [go_sem, findI_ge]
set_option maxRecDepth 100000 in
theorem con_keyword (s : ByteArray) : Con Tryz.prog 207 [vStr s] [] fun r _ => r = vb (keywordB s) := by
  refine Con.intro Tryz.func207 rfl Tryz.ntmps207 Tryz.results207 (by kernel_rfl) (by simp) 0 (by simp) ?_
  simp only [go_sem]
  refine CallU.flat (con_containsStr kwL s (by decide)) (by simp only [go_sem]) (by simp only [go_sem, kwL, List.map_cons, List.map_nil]) ?_
  rintro r bx rfl
  simp only [go_sem]
  rfl

/-! ### lists, one after the other -/
/-- how long the first i lists are, together -/
def sumL {α : Type} (ls : List (List α)) (i : Nat) : Nat := ((ls.take i).map List.length).sum
theorem sumL_zero {α : Type} (ls : List (List α)) : sumL ls 0 = 0 := rfl
theorem sumL_succ {α : Type} {ls : List (List α)} {i : Nat} (h : i < ls.length) : sumL ls (i + 1) = sumL ls i + ls[i]!.length := by
  unfold sumL
  rw [List.take_add_one, List.getElem?_eq_getElem h, getElem!_pos ls i h, List.map_append, List.sum_append]
  simp only [Option.toList, List.map_cons, List.map_nil, List.sum_cons, List.sum_nil, Nat.add_zero]
theorem sumL_mono {α : Type} {ls : List (List α)} : ∀ {i : Nat}, sumL ls i ≤ ls.flatten.length := by
  intro i
  unfold sumL
  rw [← List.length_flatten]
  have h : ls.flatten = (ls.take i).flatten ++ (ls.drop i).flatten := by rw [← List.flatten_append, List.take_append_drop]
  rw [h, List.length_append]; omega
theorem flat_succ {α : Type} {ls : List (List α)} {i : Nat} (h : i < ls.length) : (ls.take (i + 1)).flatten = (ls.take i).flatten ++ ls[i]! := by
  rw [List.take_add_one, List.getElem?_eq_getElem h, getElem!_pos ls i h, List.flatten_append]
  simp only [Option.toList, List.flatten_cons, List.flatten_nil, List.append_nil]
theorem getRow {ls : List (List ByteArray)} {i : Nat} (h : i < ls.length) : (ls.map vss)[i]? = some (.sl 0 1 (ls[i]!.map vStr)) := by
  rw [List.getElem?_map, List.getElem?_eq_getElem h, getElem!_pos ls i h, Option.map_some]; rfl
set_option maxRecDepth 100000 in
theorem con_growStr (n : Nat) (h1 : 1 ≤ n) (h2 : n ≤ 1000000) : Con Tryz.prog 234 [.nil, vi n] [] fun r _ => r = .sl 2 1 [] := by
  refine Con.intro Tryz.func234 rfl Tryz.ntmps234 Tryz.results234 (by kernel_rfl) (by simp) 0 (by simp) ?_
  have a1 : ¬ ((n : Int) < 0) := by omega
  have a2 : (0 : Int) < (n : Int) := by omega
  have hw : IntKind.i64.wrap ((n : Int) - 0) = n := by rw [wrap_in (by omega) (by omega)]; omega
  have hz : IntKind.i64.wrap 0 = 0 := wrap_in (by omega) (by omega)
  simp only [go_sem, a1, a2, hz, hw]
  omega
set_option maxRecDepth 100000 in
theorem con_concatStr (ls : List (List ByteArray)) (h1 : 1 ≤ ls.flatten.length) (h2 : ls.flatten.length ≤ 1000000) (hl : ls.length ≤ 1000000) : Con Tryz.prog 205 [.sl 0 1 (ls.map vss)] [] fun r _ => r = .sl 2 1 (ls.flatten.map vStr) := by
  refine Con.intro Tryz.func205 rfl Tryz.ntmps205 Tryz.results205 (by kernel_rfl) (by simp) 0 (by simp) ?_
  simp only [go_sem]
  refine LoopK.intro (fun i : Nat => ⟨36, [(0, .sl 0 1 (ls.map vss)), (2, .nil), (3, vi (sumL ls i)), (9, .sl 0 1 (ls.map vss)), (10, vi ls.length), (11, vi i)], []⟩)
    (fun i => ls.length - i) (fun i => i ≤ ls.length) 0 (by omega) ?_ ?_
  · simp only [go_sem, sumL_zero]
    all_goals exact leV_refl _
  rintro i hi
  have hm := sumL_mono (ls := ls) (i := i)
  by_cases h : i < ls.length
  · have hg := getRow h
    have hw : IntKind.i64.wrap (i + 1) = i + 1 := wrap_in (by omega) (by omega)
    have hm2 := sumL_mono (ls := ls) (i := i + 1)
    have hs := sumL_succ h
    have hw2 : IntKind.i64.wrap ((sumL ls i : Int) + (ls[i]!.length : Int)) = (sumL ls (i + 1) : Int) := by rw [wrap_in (by omega) (by omega)]; omega
    have a1 : ¬ ((sumL ls (i + 1) : Int) < 0) := by omega
    simp only [go_sem, h, hg, hw, hw2, a1]
    refine roundK.intro (i + 1) (by omega) (by omega) ?_
    simp only [go_sem]
  · obtain rfl : i = ls.length := by omega
    have e : sumL ls ls.length = ls.flatten.length := by unfold sumL; rw [List.take_length, ← List.length_flatten]
    simp only [go_sem, h, e]
    refine CallU.free (con_growStr ls.flatten.length h1 h2) (by simp only [go_sem]) (by simp only [go_sem]) ?_
    rintro r bx rfl
    simp only [go_sem]
    refine LoopK.intro (fun i : Nat => ⟨36, [(0, .sl 0 1 (ls.map vss)), (2, .nil), (6, .sl 1602 1 (((ls.take i).flatten).map vStr)), (25, .sl 0 1 (ls.map vss)), (26, vi ls.length), (27, vi i)], []⟩)
      (fun i => ls.length - i) (fun i => i ≤ ls.length) 0 (by omega) ?_ ?_
    · simp only [go_sem, List.take_zero, List.flatten_nil, List.map_nil]
      all_goals exact leV_refl _
    rintro i hi
    by_cases h : i < ls.length
    · have hg := getRow h
      have hw : IntKind.i64.wrap (i + 1) = i + 1 := wrap_in (by omega) (by omega)
      have hm2 := sumL_mono (ls := ls) (i := i + 1)
      have hs := sumL_succ h
      have hf := flat_succ h
      have el : (ls.take i).flatten.length = sumL ls i := by unfold sumL; rw [List.length_flatten]
      simp only [go_sem, h, hg, hw]
      refine ⟨by simp only [roomFor, el]; omega, ?_⟩
      refine roundK.intro (i + 1) (by omega) (by omega) ?_
      simp only [go_sem, hf, List.map_append]
    · obtain rfl : i = ls.length := by omega
      simp only [go_sem, h, List.take_length]
end Go.AM

/-! ## CmK -/
namespace Go.AM
open Go Go.Proofs Go.RowKit

attribute [go_sem] vM cM
theorem leC_any : ∀ (l : List AV) (n : Nat), l.length = n → leC l (List.replicate n .any)
  | [], _, h => by subst h; exact trivial
  | x :: l, _, h => by subst h; exact ⟨leV_any x, leC_any l l.length rfl⟩
theorem take_map_succ {α β : Type} [Inhabited α] {l : List α} {i : Nat} (f : α → β) (h : i < l.length) : (l.take (i + 1)).map f = (l.take i).map f ++ [f l[i]!] := by
  rw [List.take_add_one, List.getElem?_eq_getElem h, getElem!_pos l i h, List.map_append]; rfl
theorem metD_le : ∀ (n : Nat) (ks : List (List UInt8)), ks.length = n → mapLen (metD ks) ≤ n := by
  intro n
  induction n with
  | zero => intro ks h; obtain rfl := List.eq_nil_of_length_eq_zero h; exact Nat.le_refl _
  | succ n ih =>
    intro ks h
    obtain ⟨ks', x, rfl⟩ : ∃ ks' x, ks = ks' ++ [x] := ⟨ks.dropLast, ks.getLast (by intro e; rw [e] at h; simp at h), (List.dropLast_concat_getLast _).symm⟩
    have ih' := ih ks' (by simpa using h)
    have e : ∀ D : DataW Unit, mapLen D = Go.Maps.size D := fun D => by cases D <;> rfl
    rw [← metD_snoc, e, Go.Maps.size_put (metD_tidy _), ← e]
    split <;> omega
def dataL (s : ByteArray) : List UInt8 := s.data.toList
theorem names_bad {l : List ByteArray} {i : Nat} (h : i < l.length) (hb : okN l i = false) : namesB l = false := by
  unfold namesB
  rw [List.all_eq_false]
  exact ⟨i, List.mem_range.2 h, by rw [hb]; simp⟩
theorem names_ok {l : List ByteArray} (h : ∀ i, i < l.length → okN l i = true) : namesB l = true := by
  unfold namesB
  rw [List.all_eq_true]
  exact fun i hi => h i (List.mem_range.1 hi)
theorem ba_self (s : ByteArray) : s.data.toList = dataL s := rfl
/-- the names of the first rules -/
def namesTo (m : MD) (i : Nat) : List ByteArray := m.states ++ m.places ++ m.letters ++ (m.rules.take i).map RD.name
theorem namesTo_zero (m : MD) : namesTo m 0 = m.states ++ m.places ++ m.letters := by simp [namesTo]
theorem namesTo_succ {m : MD} {i : Nat} (h : i < m.rules.length) : namesTo m (i + 1) = namesTo m i ++ [m.rules[i]!.name] := by
  unfold namesTo
  rw [List.take_add_one, List.getElem?_eq_getElem h, getElem!_pos m.rules i h, List.map_append]
  simp only [Option.toList, List.map_cons, List.map_nil, List.append_assoc]
theorem namesTo_all (m : MD) : namesTo m m.rules.length = namesOf m := by unfold namesTo namesOf; rw [List.take_length]
theorem namesTo_len {m : MD} {i : Nat} : (namesTo m i).length ≤ (namesOf m).length := by
  unfold namesTo namesOf
  simp only [List.length_append, List.length_map, List.length_take]; omega
set_option maxRecDepth 100000 in
theorem con_named (m : MD) (h1 : 1 ≤ m.states.length) (h2 : (namesOf m).length ≤ 1000000) (hs : ∀ s ∈ namesOf m, s.size ≤ 9223372036854775806) : Con Tryz.prog 165 [vM m] [] fun r _ => r = vb (namesB (namesOf m)) := by
  refine Con.intro Tryz.func165 rfl Tryz.ntmps165 Tryz.results165 (by kernel_rfl) (by simp) 1 (by simp) ?_
  have h2' := h2
  unfold namesOf at h2'
  simp only [List.length_append, List.length_map] at h2'
  simp only [go_sem]
  refine CallU.freeze (con_concatStr [m.states, m.places, m.letters] (by simp; omega) (by simp; omega) (by simp)) (by simp only [go_sem]) (by simp only [go_sem, List.map_cons, List.map_nil]) ?_
  rintro r bx rfl
  have e0 : [m.states, m.places, m.letters].flatten = namesTo m 0 := by rw [namesTo_zero]; simp
  rw [e0]
  simp only [go_sem]
  refine LoopK.intro (fun i : Nat => ⟨52, [(1, .pb 0 0), (2, vb false), (3, .mp 640 Tryz.prog 9 4 (metD [])), (4, .sl 1154 1 ((namesTo m i).map vStr)), (19, .sl 0 14 (m.rules.map vRule)), (20, vi m.rules.length), (21, vi i)], cM m :: Rk 14 i⟩)
    (fun i => m.rules.length - i) (fun i => i ≤ m.rules.length) 0 (by omega) ?_ ?_
  · simp only [go_sem]
    all_goals exact ⟨leV_refl _, leB_self _⟩
  rintro i hi
  have hn := namesTo_len (m := m) (i := i)
  by_cases h : i < m.rules.length
  · have hg := getRule h
    have hw : IntKind.i64.wrap (i + 1) = i + 1 := wrap_in (by omega) (by omega)
    have hB := Rk_len 14 i
    have n0 := fun L : List (List AV) => app_at0 (L := L) hB
    have s0 := fun (L : List (List AV)) z => app_set0 (L := L) (z := z) hB
    have e := namesTo_succ h
    simp only [go_sem, h, hg, hw, hB, n0, s0]
    refine ⟨by simp only [roomFor]; omega, ?_⟩
    refine roundK.intro (i + 1) (by omega) (by omega) ?_
    simp only [go_sem, Rk_succ, e, List.map_append, List.map_cons, List.map_nil]
    exact leB_RkA ⟨leC_any _ 14 rfl, trivial⟩
  obtain rfl : i = m.rules.length := by omega
  rw [namesTo_all]
  simp only [go_sem, h]
  generalize hL : namesOf m = l at *
  refine LoopK.intro (fun i : Nat => ⟨52, [(1, .pb 0 0), (2, vb false), (3, .mp 640 Tryz.prog 9 4 (metD ((l.take i).map fun s => s.data.toList))), (31, .sl 1154 1 (l.map vStr)), (32, vi l.length), (33, vi i)], cM m :: Rk 14 m.rules.length⟩)
    (fun i => l.length - i) (fun i => i ≤ l.length ∧ ∀ j, j < i → okN l j = true) 0 ⟨by omega, fun j hj => by omega⟩ ?_ ?_
  · simp only [go_sem, List.take_zero, List.map_nil]
    all_goals exact leV_refl _
  rintro i ⟨hi, hb⟩
  by_cases h : i < l.length
  · have hg := getStr h
    have hw : IntKind.i64.wrap (i + 1) = i + 1 := wrap_in (by omega) (by omega)
    have hz := hs l[i]! (mem_bangI h)
    simp only [go_sem, h, hg]
    refine CallU.free (con_word l[i]! hz) (by simp only [go_sem]) (by simp only [go_sem]) ?_
    rintro r bx rfl
    cases a1 : wordB l[i]!
    · simp only [go_sem]
      rw [names_bad h (by unfold okN; rw [a1]; rfl)]
    simp only [go_sem]
    refine CallU.free (con_keyword l[i]!) (by simp only [go_sem]) (by simp only [go_sem]) ?_
    rintro r bx rfl
    cases a2 : keywordB l[i]!
    case true =>
      simp only [go_sem]
      rw [names_bad h (by unfold okN; rw [a1, a2]; rfl)]
    simp only [go_sem]
    refine evLookup_str Tryz.underlying207 Tryz.underlying9 Tryz.underlying4 tinfo_4 rfl (by omega) ?_
    rw [metD_at]
    cases a3 : ((l.take i).map fun s => s.data.toList).contains l[i]!.data.toList
    case true =>
      simp only [go_sem]
      rw [names_bad h (by unfold okN; rw [a1, a2, a3]; rfl)]
    simp only [go_sem]
    have hlen := metD_le i ((l.take i).map fun s => s.data.toList) (by rw [List.length_map, List.length_take]; omega)
    refine evMapPut_str Tryz.underlying207 Tryz.underlying9 Tryz.underlying4 (by omega) (by omega) ?_
    rw [metD_snoc]
    simp only [go_sem, hw]
    refine roundK.intro (i + 1) ⟨by omega, fun j hj => ?_⟩ (by omega) ?_
    · by_cases hji : j = i
      · subst hji; unfold okN; rw [a1, a2, a3]; rfl
      · exact hb j (by omega)
    · simp only [go_sem, take_map_succ (fun s : ByteArray => s.data.toList) h]
      all_goals exact leV_refl _
  · simp only [go_sem, h]
    rw [names_ok (fun j hj => hb j (by omega))]
end Go.AM
