/-
  The abstract machine: what walks have in common: numbers, lists, contracts.
  The abstract machine: configurations (values with values below them); elements of which less is known; loops that several branches come to.
  Plain laws: invariants of counter models: closed atoms hold wherever rules lead.
  Counter models: their data, as abstract values.
  Plain laws: candidates of chapter 32: lists of coefficients, each once.
  Walks: the dice.
  Walks: small functions of models and invariants.
  Walks: atoms.
  Walks: configurations of counter models.
  Walks: names.
  Walks: searches in lists.
  Walks: keywords; lists of names.
  Walks: a model's names.
  Walks: a model's numbers and ranks.
  Walks: a rule is right.
  Walks: a counter model's rule is right.
  Walks: types; flat types are right.
  Walks: values of flat types; a counter model is valid.
  Walks: a valid counter model is found valid.
  Walks: valid atoms, whether they hold, whether they are closed.
  Walks: whether an atom holds, and whether it is closed.
  Walks: Holds, Closed, Excludes.
  Walks: slices.Repeat and slices.Clone of numbers.
  Walks: the reference of models: numbers and names.
  Walks: the reference of models: keywords, all names, rules.
-/
import Derived.Test.YtpmodjodfimejaaGreatg6
import Derived.Maps.Views
import Derived.Test.YtpmodjodfimejaaGreatg5
/-! ## Am0 -/
namespace Go.AM
open Go Go.Proofs Go.RowKit
theorem wrap_in {n : Int} (h1 : -9223372036854775808 ≤ n) (h2 : n ≤ 9223372036854775807) : IntKind.i64.wrap n = n := by rw [IntKind.wrap_i64]; omega
def vi (x : Int) : AV := .sc (.int .i64 x)
def vu (x : Int) : AV := .sc (.int .u8 x)
def vs (t : Nat) (l : List Int) : AV := .sl t 1 (l.map vi)
theorem getv {l : List Int} {i : Nat} (h : i < l.length) : (l.map vi)[i]? = some (.sc (.int .i64 l[i]!)) := by simp [vi, h]
theorem getu {l : List Int} {i : Nat} (h : i < l.length) : (l.map vu)[i]? = some (.sc (.int .u8 l[i]!)) := by simp [vu, h]
/-- where the first is of which p holds; -1 where none is -/
def findI {α : Type} (p : α → Bool) (l : List α) : Int := match l.findIdx? p with | some i => i | none => -1
theorem findI_stop {α : Type} [Inhabited α] {p : α → Bool} {l : List α} {i : Nat} (h : i < l.length) (hb : ∀ j, j < i → p l[j]! = false) (hp : p l[i]! = true) : findI p l = i := by
  have : l.findIdx? p = some i := by
    rw [List.findIdx?_eq_some_iff_getElem]
    refine ⟨h, by simpa [h] using hp, fun j hj => ?_⟩
    have := hb j hj
    have hjl : j < l.length := by omega
    simpa [hjl] using this
  simp [findI, this]
theorem findI_none {α : Type} [Inhabited α] {p : α → Bool} {l : List α} (hb : ∀ j, j < l.length → p l[j]! = false) : findI p l = -1 := by
  have : l.findIdx? p = none := by
    rw [List.findIdx?_eq_none_iff]
    intro x hx
    obtain ⟨j, hj⟩ := List.getElem?_of_mem hx
    have hjl := (List.getElem?_eq_some_iff.1 hj).1
    have := hb j hjl
    have e : l[j]! = x := by simp [hj]
    rw [e] at this; exact this
  simp [findI, this]
theorem findI_ge {α : Type} (p : α → Bool) (l : List α) : decide (0 ≤ findI p l) = l.any p := by
  unfold findI
  cases h : l.findIdx? p with
  | none =>
    rw [List.findIdx?_eq_none_iff] at h
    have : l.any p = false := by simpa using h
    simp [this]
  | some i =>
    rw [List.findIdx?_eq_some_iff_getElem] at h
    obtain ⟨h1, h2, _⟩ := h
    have : l.any p = true := List.any_eq_true.2 ⟨l[i], List.getElem_mem _, h2⟩
    simp [this]
theorem mem_bang {α : Type} [Inhabited α] {l : List α} {i : Nat} (h : i < l.length) : l[i]! ∈ l := by rw [getElem!_pos l i h]; exact List.getElem_mem _
theorem bang_of {α : Type} [Inhabited α] {l : List α} {i : Nat} {x : α} (h : l[i]? = some x) : l[i]! = x := by rw [getElem!_def, h]
def vb (b : Bool) : AV := .sc (.bool b)
attribute [go_sem] vi vu vs vb
def vbl (t : Nat) (row : List Bool) : AV := .sl t 1 (row.map vb)
theorem getvb {l : List Bool} {i : Nat} (h : i < l.length) : (l.map vb)[i]? = some (.sc (.bool l[i]!)) := by simp [vb, h]
theorem leC_refl : ∀ l : List AV, leC l l
  | [] => trivial
  | _ :: l => ⟨leV_refl _, leC_refl l⟩
theorem leB_refl : ∀ l : List (List AV), leB l l
  | [] => trivial
  | x :: l => ⟨leC_refl x, leB_refl l⟩
/-- what a callee hands back, under another tag -/
theorem Con.retag {P : Program} {f : FuncId} {args : List AV} {bx : List (List AV)} {post : AV → Prop} (a b : Nat) (ha : 2 ≤ a) (hb : 2 ≤ b) (h : Con P f args bx fun r _ => post r) :
    Con P f args bx fun r' _ => ∃ r, post r ∧ r' = r.mapTop (retagLeaf a b) :=
  ⟨h.1, fun G w vs h1 h2 h3 h4 h5 => (h.2 G w vs h1 h2 h3 h4 h5).mono fun e w' ⟨v, r, bx', G', he, hq, hr, hg, hbx, hlt, e1, e2, e3, e4, e5, e6⟩ => by
    have hbox : ∀ k i, retagG a b G' k = .box i → G' k = .box i := fun k i hk => by
      unfold retagG at hk; split at hk
      · cases hk
      · split at hk
        · cases hk
        · exact hk
    refine ⟨v, _, bx'.map (fun cs => cs.map (AV.mapTop (retagLeaf a b))), retagG a b G', he, ⟨r, hq, rfl⟩, hr.retag ha hb, hg.retag, ⟨fun i vs hv => by simp [noGh] at hv, fun i cs hi => ?_⟩, fun k i hk => by simpa using hlt k i (hbox k i hk), e1, e2, e3, e4, fun k hk => ?_, e6⟩
    · rw [List.getElem?_map] at hi
      cases hc : bx'[i]? with
      | none => simp [hc] at hi
      | some cs' =>
        simp [hc] at hi; subst hi
        exact (hbx.cell i cs' hc).map (fun x v hr => hr.retag ha hb) (fun k hk => ⟨by simp [retagG, hk], rfl⟩) fun h0 k hk => h0 k (hbox k i hk)
    · have := e5 k hk
      unfold retagG
      rw [this, if_neg (h2 k a), if_neg (h2 k b)]⟩
theorem take_snoc {α : Type} [Inhabited α] {l : List α} {j : Nat} (h : j < l.length) : l.take (j + 1) = l.take j ++ [l[j]!] := by
  rw [List.take_add_one, List.getElem?_eq_getElem h, ← getElem!_pos l j h]; rfl
/-- a contract serves wherever what its arguments stand for is known of the values -/
theorem Con.args {P : Program} {f : FuncId} {args args' : List AV} {bx : List (List AV)} {post : AV → List (List AV) → Prop} (h : Con P f args bx post)
    (ha : ∀ (G : Nat → Status) (w : World) (vs : List Value), PW (VRel G w) args' vs → PW (VRel G w) args vs) : Con P f args' bx post :=
  ⟨h.1, fun G w vs h1 h2 h3 h4 h5 => h.2 G w vs h1 h2 h3 h4 (ha G w _ h5)⟩
theorem bytesOf_vu : ∀ l : List Int, bytesOf (l.map vu) = some l
  | [] => rfl
  | x :: l => by simp [bytesOf, vu, ← bytesOf_vu l]
/-- x's values are y's -/
def Sub (x y : AV) : Prop := ∀ (S : Nat → Prop) (w : World) (v : Value), FRel S w x v → FRel S w y v
theorem Sub.refl (x : AV) : Sub x x := fun _ _ _ h => h
theorem Sub.nil (es : Nat) : Sub .nil (.sl 0 es []) := fun S w v h => by
  cases h; exact .slNil 0 es none 0 (by omega) (fun h => by omega) (fun _ => rfl)
theorem flat_one {xs : List AV} (h : ∀ x ∈ xs, x.cells = [x]) : flat xs = xs := by
  induction xs with
  | nil => rfl
  | cons x xs ih =>
    have e := ih fun y hy => h y (List.mem_cons_of_mem _ hy)
    unfold flat at *
    rw [List.flatMap_cons, h x (List.mem_cons_self ..), e]; rfl
theorem Sub.sl {t : Nat} {xs ys : List AV} (hx : ∀ x ∈ xs, x.cells = [x]) (hy : ∀ y ∈ ys, y.cells = [y]) (h : PW Sub xs ys) : Sub (.sl t 1 xs) (.sl t 1 ys) := fun S w v hv => by
  have hl := h.1
  cases hv with
  | slNil _ _ a c h1 h2 h3 =>
    have : ys = [] := List.eq_nil_of_length_eq_zero (by simpa using hl.symm)
    subst this; exact .slNil t 1 a c h1 h2 h3
  | sl _ _ _ b off c vals h1 h2 h3 hc h4 h5 h0 h6 h7 =>
    rw [hl]
    rw [flat_one hx] at h5 h7
    refine .sl t 1 ys b off c vals h1 h2 (fun e => by rw [h3 e, hl]) (by omega) (fun y hy' => by rw [hy y hy']; rfl) (by rw [flat_one hy]; omega) h0 h6 fun j y u hj hu => ?_
    rw [flat_one hy] at hj
    have hjl : j < xs.length := by rw [hl]; exact (List.getElem?_eq_some_iff.1 hj).1
    exact h.2 j _ y (List.getElem?_eq_getElem hjl) hj S w u (h7 j _ u (List.getElem?_eq_getElem hjl) hu)
theorem Sub.ag1 {x y : AV} (h : Sub x y) : Sub (.ag [x]) (.ag [y]) := fun S w v hv => by
  cases hv with
  | ag _ vs h1 h2 h3 =>
    refine .ag [y] vs h1 h2 fun j z u hz hu => ?_
    cases j with
    | zero => simp at hz; subst hz; exact h S w u (h3 0 x u rfl hu)
    | succ j => simp at hz
theorem Con.sub {P : Program} {f : FuncId} {args args' : List AV} {bx : List (List AV)} {post : AV → List (List AV) → Prop} (h : Con P f args bx post)
    (ha : PW (fun x y => x = y ∨ (x.fz = true ∧ Sub x y)) args' args) : Con P f args' bx post :=
  h.args fun G w vs hv => ⟨by rw [← ha.1]; exact hv.1, fun j y u hy hu => by
    have hjl : j < args'.length := by rw [ha.1]; exact (List.getElem?_eq_some_iff.1 hy).1
    have h1 := hv.2 j _ u (List.getElem?_eq_getElem hjl) hu
    rcases ha.2 j _ y (List.getElem?_eq_getElem hjl) hy with rfl | ⟨h2, h3⟩
    · exact h1
    · exact .froz (h3 _ _ _ (h1.fz h2))⟩
theorem DrawK.freeze {P : Program} {ops : Array Oper} {σ : St} {K : St → Prop} (p : Nat → Bool) (h : DrawK P ops (σ.map (freezeLeaf p)) K) : DrawK P ops σ K :=
  fun G0 w0 _G a w id Q h0 hs hK => h G0 w0 _ a w id Q h0 (hs.freeze h0 p) hK
/-- what a callee hands back, never written again -/
theorem Con.freezeR {P : Program} {f : FuncId} {args : List AV} {post : AV → Prop} (p : Nat → Bool) (h : Con P f args [] fun r _ => post r) : Con P f args [] fun r' _ => ∃ r, post r ∧ r' = r.freeze p :=
  ⟨h.1, fun G w vs h1 h2 h3 h4 h5 => (h.2 G w vs h1 h2 h3 h4 h5).mono fun e w' ⟨v, r, bx', G', he, hq, hr, hg, hbx, hlt, e1, e2, e3, e4, e5, e6⟩ => by
    have hbox : ∀ k i, freezeG p G' k = .box i ↔ G' k = .box i := fun k i => by
      unfold freezeG; split
      · rename_i t ht; split <;> simp [ht]
      · exact Iff.rfl
    refine ⟨v, _, bx'.map (fun cs => cs.map (AV.freeze p)), freezeG p G', he, ⟨r, hq, rfl⟩, hr.freeze, hg.freeze, ⟨fun i vs hv => by simp [noGh] at hv, fun i cs hi => ?_⟩, fun k i hk => by simpa using hlt k i ((hbox k i).1 hk), e1, e2, e3, e4, fun k hk => ?_, e6⟩
    · rw [List.getElem?_map] at hi
      cases hc : bx'[i]? with
      | none => simp [hc] at hi
      | some cs' =>
        simp [hc] at hi; subst hi
        exact (hbx.cell i cs' hc).map (fun x v hr => hr.freeze) (fun k hk => ⟨(hbox k i).2 hk, rfl⟩) fun h0 k hk => h0 k ((hbox k i).1 hk)
    · have := e5 k hk
      unfold freezeG
      split
      · rename_i t ht; rw [this] at ht; exact absurd ht (h2 k t)
      · exact this⟩
/-- an element stays: it is the first, or differs from the one before it -/
def keepsL (l : List Int) (j : Nat) : Bool := decide (j = 0) || decide (l[j]! ≠ l[j - 1]!)
/-- what stays of the first m elements -/
def upTo (l : List Int) (m : Nat) : List Int := ((List.range m).filter (keepsL l)).map fun j => l[j]!
def uniq (l : List Int) : List Int := upTo l l.length
theorem upTo_succ (l : List Int) (m : Nat) : upTo l (m + 1) = upTo l m ++ (if keepsL l m = true then [l[m]!] else []) := by
  unfold upTo
  rw [List.range_succ, List.filter_append, List.map_append]
  cases h : keepsL l m <;> simp [h]
theorem upTo_all {l : List Int} : ∀ {m : Nat}, m ≤ l.length → (∀ j, j < m → keepsL l j = true) → upTo l m = l.take m
  | 0, _, _ => by simp [upTo]
  | m + 1, hm, h => by
    rw [upTo_succ, upTo_all (by omega) fun j hj => h j (by omega), h m (by omega), take_snoc (by omega)]; simp
theorem modify_vi {Z : List Int} {q : Nat} {x : Int} : (List.map vi Z).modify q (updElem 0 [AV.sc (.int .i64 x)]) = List.map vi (Z.set q x) := by
  apply List.ext_getElem?
  intro j
  rw [List.getElem?_modify, List.getElem?_map, List.getElem?_map, List.getElem?_set]
  by_cases hq : q = j
  · subst hq
    by_cases hl : q < Z.length
    · simp [hl, vi, updElem]
    · simp [hl]
  · simp [hq]
theorem keeps_one {l : List Int} : ∀ j, j < 1 → keepsL l j = true := fun j hj => by
  have : j = 0 := by omega
  subst this; rfl
theorem uniq_short {l : List Int} (h : l.length < 2) : uniq l = l := by
  match l, h with
  | [], _ => rfl
  | [x], _ => rfl
/-- the map whose keys are these -/
def metD (ks : List (List UInt8)) : DataW Unit := Go.Maps.setOf (.lit (.bool true)) (ks.map Lit.string)
theorem metD_snoc (ks : List (List UInt8)) (k : List UInt8) : (metD ks).put (.string k) (.lit (.bool true)) = metD (ks ++ [k]) := by
  unfold metD; rw [List.map_append]; exact (Go.Maps.setOf_snoc _ _ _).symm
theorem metD_tidy (ks : List (List UInt8)) : Go.Maps.Tidy (metD ks) := Go.Maps.tidy_setOf _ _ fun x hx => by
  obtain ⟨k, _, rfl⟩ := List.mem_map.1 hx; trivial
theorem metD_at : ∀ (ks : List (List UInt8)) (k : List UInt8), boolAt (metD ks) (.string k) = ks.contains k := by
  intro ks k
  have : ∀ (n : Nat) (ks : List (List UInt8)), ks.length = n → boolAt (metD ks) (.string k) = ks.contains k := by
    intro n
    induction n with
    | zero => intro ks h; obtain rfl := List.eq_nil_of_length_eq_zero h; rfl
    | succ n ih =>
      intro ks h
      obtain ⟨ks', x, rfl⟩ : ∃ ks' x, ks = ks' ++ [x] := ⟨ks.dropLast, ks.getLast (by intro e; rw [e] at h; simp at h), (List.dropLast_concat_getLast _).symm⟩
      have ih' := ih ks' (by simpa using h)
      rw [← metD_snoc]
      by_cases hk : k = x
      · subst hk
        unfold boolAt
        rw [Go.Maps.atKey_put_same (metD_tidy _).isMap (by trivial)]
        simp
      · unfold boolAt at ih' ⊢
        rw [Go.Maps.atKey_put_other (by intro e; cases e; exact hk rfl), ih']
        simp [hk]
  exact this _ ks rfl
theorem metD_has (ks : List (List UInt8)) (k : List UInt8) : Go.Maps.has (metD ks) (.string k) = ks.contains k := by
  unfold metD Go.Maps.setOf
  rw [Go.Maps.has_fold _ _ _ _ (⟨[], rfl⟩) (fun x hx => by obtain ⟨k, _, rfl⟩ := List.mem_map.1 hx; trivial)]
  rw [show Go.Maps.has (DataW.map ([] : List (Lit × DataW Unit))) (.string k) = false from rfl, Bool.false_or, List.any_map, List.contains_eq_any_beq]
  congr 1
  funext y
  by_cases h : k = y
  · subst h; simp [Go.WideAt.sameKey_self (show Go.WideAt.IsKeyLit (.string k) from trivial)]
  · have : (Lit.string y).sameKey (.string k) = false := by
      cases hc : (Lit.string y).sameKey (.string k)
      · rfl
      · have := Go.WideAt.sameKey_eq hc; cases this; exact absurd rfl h
    simp [this, h]
theorem metD_len : ∀ (ks : List (List UInt8)), ks.Nodup → mapLen (metD ks) = ks.length := by
  intro ks
  have : ∀ (n : Nat) (ks : List (List UInt8)), ks.length = n → ks.Nodup → mapLen (metD ks) = ks.length := by
    intro n
    induction n with
    | zero => intro ks h _; obtain rfl := List.eq_nil_of_length_eq_zero h; rfl
    | succ n ih =>
      intro ks h hn
      obtain ⟨ks', x, rfl⟩ : ∃ ks' x, ks = ks' ++ [x] := ⟨ks.dropLast, ks.getLast (by intro e; rw [e] at h; simp at h), (List.dropLast_concat_getLast _).symm⟩
      rw [List.nodup_append] at hn
      have hx : x ∉ ks' := fun hm => hn.2.2 x hm x (by simp) rfl
      have ih' := ih ks' (by simpa using h) hn.1
      have e : ∀ D : DataW Unit, mapLen D = Go.Maps.size D := fun D => by cases D <;> rfl
      rw [← metD_snoc, e, Go.Maps.size_put (metD_tidy _), metD_has, ← e, ih']
      simp [hx]
  exact this _ ks rfl
theorem strOf_size (ns : List Int) : (strOf ns).size = ns.length := by
  have : ∀ (ns : List Int) (r : ByteArray), (ns.foldl (fun r n => r.push (UInt8.ofNat n.toNat)) r).size = r.size + ns.length := by
    intro ns
    induction ns with
    | nil => intro r; simp
    | cons x ns ih => intro r; rw [List.foldl_cons, ih, ByteArray.size_push, List.length_cons]; omega
  have h := this ns ByteArray.empty
  unfold strOf
  rw [h]; simp
theorem sortI_perm (l : List Int) : (sortI l).Perm l := List.mergeSort_perm l _
theorem sortI_sorted (l : List Int) : (sortI l).Pairwise (· ≤ ·) := by
  have := List.pairwise_mergeSort (le := fun x y : Int => decide (x ≤ y)) (by intro a b c; simp; omega) (by intro a b; simp; omega) l
  exact this.imp (by intro a b h; simpa using h)
theorem mem_sortI {l : List Int} {x : Int} : x ∈ sortI l ↔ x ∈ l := (sortI_perm l).mem_iff
theorem bang_mem {l : List Int} {j : Nat} (h : j < l.length) : l[j]! ∈ l := mem_bang h
theorem sorted_bang {l : List Int} (h : l.Pairwise (· ≤ ·)) {i j : Nat} (hij : i ≤ j) (hj : j < l.length) : l[i]! ≤ l[j]! := by
  rcases Nat.lt_or_ge i j with hlt | hge
  · have := List.pairwise_iff_getElem.1 h i j (by omega) hj hlt
    rw [getElem!_pos l i (by omega), getElem!_pos l j hj]; exact this
  · obtain rfl : i = j := by omega
    exact Int.le_refl _
theorem mem_uniq {l : List Int} {x : Int} : x ∈ uniq l ↔ x ∈ l := by
  constructor
  · intro h
    unfold uniq upTo at h
    obtain ⟨j, hj, rfl⟩ := List.mem_map.1 h
    have := List.mem_range.1 (List.mem_filter.1 hj).1
    exact mem_bang this
  · intro h
    -- the first place
    have : ∀ (n : Nat) (j : Nat), j ≤ n → j < l.length → l[j]! = x → x ∈ uniq l := by
      intro n
      induction n with
      | zero =>
        intro j hj hl hx
        obtain rfl : j = 0 := by omega
        unfold uniq upTo
        exact List.mem_map.2 ⟨0, List.mem_filter.2 ⟨List.mem_range.2 hl, rfl⟩, hx⟩
      | succ n ih =>
        intro j hj hl hx
        by_cases h0 : j = 0
        · exact ih j (by omega) hl hx
        · by_cases hp : l[j - 1]! = x
          · exact ih (j - 1) (by omega) (by omega) hp
          · unfold uniq upTo
            refine List.mem_map.2 ⟨j, List.mem_filter.2 ⟨List.mem_range.2 hl, ?_⟩, hx⟩
            unfold keepsL
            rw [decide_eq_true (p := l[j]! ≠ l[j - 1]!) (by rw [hx]; exact fun e => hp e.symm), Bool.or_true]
    obtain ⟨j, hj⟩ := List.getElem?_of_mem h
    have hl := (List.getElem?_eq_some_iff.1 hj).1
    exact this j j (Nat.le_refl _) hl (bang_of hj)
theorem uniq_strict {l : List Int} (h : l.Pairwise (· ≤ ·)) : (uniq l).Pairwise (· < ·) := by
  unfold uniq upTo
  rw [List.pairwise_map]
  have h1 : ((List.range l.length).filter (keepsL l)).Pairwise (fun i j => i < j) := (List.pairwise_lt_range).filter _
  refine h1.imp_of_mem ?_
  intro i j hi hj hij
  have hj1 := List.mem_filter.1 hj
  have hjl := List.mem_range.1 hj1.1
  have hk := hj1.2
  unfold keepsL at hk
  have hne : l[j]! ≠ l[j - 1]! := by
    simp only [Bool.or_eq_true, decide_eq_true_eq] at hk
    rcases hk with hk | hk
    · omega
    · exact hk
  have a1 := sorted_bang h (show i ≤ j - 1 by omega) (by omega)
  have a2 := sorted_bang h (show j - 1 ≤ j by omega) hjl
  omega
theorem strict_len : ∀ {l : List Int} {lo n : Int}, l.Pairwise (· < ·) → (∀ i ∈ l, lo ≤ i ∧ i < n) → lo ≤ n → (l.length : Int) ≤ n - lo
  | [], lo, n, _, _, h => by simp; omega
  | x :: l, lo, n, hp, hb, h => by
    have h1 := hb x (by simp)
    have hp' := List.pairwise_cons.1 hp
    have := strict_len (lo := x + 1) (n := n) hp'.2 (fun i hi => ⟨by have := hp'.1 i hi; omega, (hb i (by simp [hi])).2⟩) (by omega)
    simp only [List.length_cons]; omega
theorem strOf_data (ns : List Int) : (strOf ns).data.toList = ns.map fun n => UInt8.ofNat n.toNat := by
  have : ∀ (ns : List Int) (r : ByteArray), (ns.foldl (fun r n => r.push (UInt8.ofNat n.toNat)) r).data.toList = r.data.toList ++ ns.map fun n => UInt8.ofNat n.toNat := by
    intro ns
    induction ns with
    | nil => intro r; simp
    | cons x ns ih => intro r; rw [List.foldl_cons, ih, List.map_cons]; simp [ByteArray.push]
  unfold strOf
  rw [this]; simp
theorem bytes_inj : ∀ {x y : List Int}, (∀ i ∈ x, 0 ≤ i ∧ i < 256) → (∀ i ∈ y, 0 ≤ i ∧ i < 256) → (x.map fun n => UInt8.ofNat n.toNat) = (y.map fun n => UInt8.ofNat n.toNat) → x = y
  | [], [], _, _, _ => rfl
  | [], _ :: _, _, _, h => by simp at h
  | _ :: _, [], _, _, h => by simp at h
  | a :: x, b :: y, hx, hy, h => by
    simp only [List.map_cons, List.cons.injEq] at h
    have h1 := hx a (by simp)
    have h2 := hy b (by simp)
    have e := congrArg UInt8.toNat h.1
    simp only [UInt8.toNat_ofNat'] at e
    rw [Nat.mod_eq_of_lt (by omega), Nat.mod_eq_of_lt (by omega)] at e
    rw [show a = b by omega, bytes_inj (fun i hi => hx i (by simp [hi])) (fun i hi => hy i (by simp [hi])) h.2]
attribute [go_sem] vbl
end Go.AM

/-! ## Am4 -/
namespace Go.AM
open Go Go.Proofs Go.RowKit

/-- a configuration -/
inductive CV where
  | mk (n : Int) (kids : List CV)
  deriving Inhabited
def CV.n : CV → Int
  | .mk n _ => n
def CV.kids : CV → List CV
  | .mk _ k => k

mutual
def vV : CV → AV
  | .mk n kids => .ag [vi n, .sl 0 2 (vVs kids)]
def vVs : List CV → List AV
  | [] => []
  | x :: l => vV x :: vVs l
end
theorem vVs_map : ∀ l : List CV, vVs l = l.map vV
  | [] => rfl
  | x :: l => by rw [vVs, vVs_map l]; rfl
theorem vV_eq (a : CV) : vV a = .ag [vi a.n, .sl 0 2 (a.kids.map vV)] := by cases a; rw [vV, vVs_map]; rfl

def ordI (a b : Int) : Int := if a < b then -1 else if b < a then 1 else 0
mutual
def cmpV : CV → CV → Int
  | .mk n k, .mk m l => if n ≠ m then ordI n m else if k.length ≠ l.length then ordI k.length l.length else cmpVs k l
def cmpVs : List CV → List CV → Int
  | [], [] => 0
  | [], _ :: _ => -1
  | _ :: _, [] => 1
  | x :: k, y :: l => if cmpV x y ≠ 0 then cmpV x y else cmpVs k l
end
theorem ordI_zero {a b : Int} : ordI a b = 0 ↔ a = b := by unfold ordI; split <;> (try split) <;> omega
mutual
theorem cmpV_zero : ∀ (a b : CV), cmpV a b = 0 ↔ a = b
  | .mk n k, .mk m l => by
    rw [cmpV]
    by_cases h : n = m
    · rw [if_neg (fun h' => h' h)]
      by_cases h2 : k.length = l.length
      · rw [if_neg (fun h' => h' h2), cmpVs_zero k l, h]; simp
      · rw [if_pos h2, ordI_zero]
        exact ⟨fun e => absurd (by omega) h2, fun e => absurd (by injection e with _ e; rw [e]) h2⟩
    · rw [if_pos h, ordI_zero]
      exact ⟨fun e => absurd e h, fun e => absurd (by injection e) h⟩
theorem cmpVs_zero : ∀ (k l : List CV), cmpVs k l = 0 ↔ k = l
  | [], [] => by simp [cmpVs]
  | [], _ :: _ => by simp [cmpVs]
  | _ :: _, [] => by simp [cmpVs]
  | x :: k, y :: l => by
    rw [cmpVs]
    by_cases h : cmpV x y = 0
    · rw [if_neg (fun h' => h' h), cmpVs_zero k l, (cmpV_zero x y).1 h]; simp
    · rw [if_pos h]
      exact ⟨fun e => absurd e h, fun e => absurd ((cmpV_zero x y).2 (by injection e)) h⟩
end
/-- the lists below are not too long -/
inductive CV.Ok : CV → Prop
  | mk (n : Int) (k : List CV) : k.length ≤ 9223372036854775807 → (∀ x ∈ k, CV.Ok x) → CV.Ok (.mk n k)
theorem CV.Ok.len {a : CV} (h : a.Ok) : a.kids.length ≤ 9223372036854775807 := by cases h; assumption
theorem CV.Ok.kid {a : CV} (h : a.Ok) {x : CV} (hx : x ∈ a.kids) : x.Ok := by cases h with | mk n k _ h2 => exact h2 x hx
theorem kid_size {a x : CV} (h : x ∈ a.kids) : SizeOf.sizeOf x < SizeOf.sizeOf a := by
  cases a with
  | mk n k => have := List.sizeOf_lt_of_mem h; simp only [CV.kids] at *; rw [CV.mk.sizeOf_spec]; omega
theorem getvV {l : List CV} {i : Nat} (h : i < l.length) : (l.map vV)[i]? = some (.ag [.sc (.int .i64 l[i]!.n), .sl 0 2 (l[i]!.kids.map vV)]) := by
  rw [List.getElem?_map, List.getElem?_eq_getElem h, getElem!_pos l i h, Option.map_some, vV_eq]; rfl

/-- the first that is not zero -/
def orF (l : List Int) : Int := (l.find? (· != 0)).getD 0
theorem or_cmp (a b : CV) : orF [ordI a.n b.n, ordI a.kids.length b.kids.length, cmpVs a.kids b.kids] = cmpV a b := by
  obtain ⟨n, k⟩ := a
  obtain ⟨m, l⟩ := b
  rw [cmpV]
  simp only [CV.n, CV.kids]
  unfold orF
  by_cases h : n = m
  · rw [if_neg (fun h' => h' h), List.find?_cons_of_neg (by simp [ordI_zero, h])]
    by_cases h2 : k.length = l.length
    · rw [if_neg (fun h' => h' h2), List.find?_cons_of_neg (by simp [ordI_zero, h2])]
      by_cases h3 : cmpVs k l = 0
      · rw [List.find?_cons_of_neg (by simp [h3]), h3]; rfl
      · rw [List.find?_cons_of_pos (by simp [h3])]; rfl
    · rw [if_pos h2, List.find?_cons_of_pos (by simp [ordI_zero]; omega)]; rfl
  · rw [if_pos h, List.find?_cons_of_pos (by simp [ordI_zero, h])]; rfl

/-- whether two configurations are equal -/
def sameV (a b : CV) : Bool := cmpV a b == 0
theorem sameV_iff {a b : CV} : sameV a b = true ↔ a = b := by unfold sameV; rw [beq_iff_eq, cmpV_zero]

theorem Sub.slE {t es : Nat} {xs ys : List AV} (hl : xs.length = ys.length) (hy : ∀ y ∈ ys, y.cells.length = es) (h : PW Sub (flat xs) (flat ys)) : Sub (.sl t es xs) (.sl t es ys) := fun S w v hv => by
  cases hv with
  | slNil _ _ a c h1 h2 h3 =>
    have : ys = [] := List.eq_nil_of_length_eq_zero (by simpa using hl.symm)
    subst this; exact .slNil t es a c h1 h2 h3
  | sl _ _ _ b off c vals h1 h2 h3 hc h4 h5 h0 h6 h7 =>
    rw [hl]
    refine .sl t es ys b off c vals h1 h2 (fun e => by rw [h3 e, hl]) (by omega) hy (by rw [← h.1]; exact h5) h0 h6 fun j y u hj hu => ?_
    have hjl : j < (flat xs).length := by rw [h.1]; exact (List.getElem?_eq_some_iff.1 hj).1
    exact h.2 j _ y (List.getElem?_eq_getElem hjl) hj S w u (h7 j _ u (List.getElem?_eq_getElem hjl) hu)
theorem leV_slE {t es : Nat} {xs ys : List AV} (hl : xs.length = ys.length) (hy : ∀ y ∈ ys, y.cells.length = es) (h : PW Sub (flat xs) (flat ys)) : leV (.sl t es xs) (.sl t es ys) := leV_sem fun G w v hv => by
  cases hv with
  | froz h' => exact .froz (Sub.slE hl hy h _ _ _ h')
  | own _ _ _ _ e vals h1 h2 h3 h4 h0 h5 =>
    refine .own t es ys v e vals h1 (by rw [← hl]; exact h2) h3 hy h0 ⟨by rw [← h.1]; exact h5.1, fun j y u hj hu => ?_⟩
    have hjl : j < (flat xs).length := by rw [h.1]; exact (List.getElem?_eq_some_iff.1 hj).1
    exact h.2 j _ y (List.getElem?_eq_getElem hjl) hj _ _ u (h5.2 j _ u (List.getElem?_eq_getElem hjl) hu)

theorem share3 {body : (Exit → St → Prop) → St → Prop} {Q : Exit → St → Prop} {T : St → Prop} {A : Prop} (h : (∀ τ, T τ → LoopK body Q τ) → A) (key : ∀ τ, T τ → LoopK body Q τ) : A := h key
end Go.AM

/-! ## LInv -/
namespace Go.AM

/-- a rule of a counter model -/
structure RD where
  name : ByteArray
  src : Int
  dst : Int
  need : List Int
  give : List Int
  move : List Int
  channel : Int := 0
  act : Int := 0
  letter : Int := 0
  path : List Int := []
  next : List Int := []
  takes : List (Int × Int × Int) := []
  makes : List Int := []
  second : Int := 0
  deriving Inhabited
/-- an atom: coefficients, modulus, values -/
structure AtomD where
  coefs : List Int
  mod : Int
  values : List Int
  deriving Inhabited

def omegaI : Int := 1099511627776
def restF (n m : Int) : Int := Int.tmod (Int.tmod n m + m) m
theorem neg_emod_emod' (k m : Int) : (-(k % m)) % m = (-k) % m := by
  have h := Int.emod_add_mul_ediv k m
  have e : -k = -(k % m) + m * (-(k / m)) := by rw [Int.mul_neg]; omega
  rw [e, Int.add_mul_emod_self_left]
theorem restF_emod {n m : Int} (h : 0 < m) : restF n m = n % m := by
  unfold restF
  rw [Int.tmod_eq_emod_of_nonneg (by have := Int.lt_tmod_of_pos n h; omega)]
  rcases Int.le_total 0 n with hn | hn
  · rw [Int.tmod_eq_emod_of_nonneg hn, Int.add_emod_right, Int.emod_emod]
  · obtain ⟨k, rfl⟩ : ∃ k, n = -k := ⟨-n, by omega⟩
    rw [Int.neg_tmod, Int.tmod_eq_emod_of_nonneg (by omega), Int.add_emod_right, neg_emod_emod']
def sumF : List Int → List Int → Int
  | c :: cs, v :: vs => c * v + sumF cs vs
  | _, _ => 0
def effectF (coefs : List Int) (r : RD) : Int := sumF coefs r.give - sumF coefs r.need
/-- the vector behind a rule -/
def fireL : List Int → List Int → List Int → List Int
  | v :: vs, n :: ns, g :: gs => (v - n + g) :: fireL vs ns gs
  | _, _, _ => []
def fireF (r : RD) (v : List Int) : List Int := fireL v r.need r.give
theorem fireL_len : ∀ {v n g : List Int}, n.length = v.length → g.length = v.length → (fireL v n g).length = v.length
  | [], [], [], _, _ => rfl
  | v :: vs, n :: ns, g :: gs, h1, h2 => by
    simp only [fireL, List.length_cons]
    rw [fireL_len (by simpa using h1) (by simpa using h2)]
  | [], _ :: _, _, h, _ => by simp at h
  | [], [], _ :: _, _, h => by simp at h
  | _ :: _, [], _, h, _ => by simp at h
  | _ :: _, _ :: _, [], _, h => by simp at h
theorem fireL_at : ∀ {v n g : List Int} {i : Nat}, n.length = v.length → g.length = v.length → i < v.length → (fireL v n g)[i]! = v[i]! - n[i]! + g[i]!
  | v :: vs, n :: ns, g :: gs, 0, _, _, _ => rfl
  | v :: vs, n :: ns, g :: gs, i + 1, h1, h2, h => by
    simp only [fireL, List.getElem!_cons_succ]
    exact fireL_at (by simpa using h1) (by simpa using h2) (by simpa using h)
  | [], _, _, _, _, _, h => by simp at h
  | _ :: _, [], _, _, h, _, _ => by simp at h
  | _ :: _, _ :: _, [], _, _, h, _ => by simp at h
theorem sum_fireL : ∀ {c v n g : List Int}, c.length = v.length → n.length = v.length → g.length = v.length → sumF c (fireL v n g) = sumF c v + (sumF c g - sumF c n)
  | [], [], [], [], _, _, _ => rfl
  | c :: cs, v :: vs, n :: ns, g :: gs, h0, h1, h2 => by
    simp only [fireL, sumF]
    rw [sum_fireL (by simpa using h0) (by simpa using h1) (by simpa using h2)]
    rw [Int.mul_add, Int.mul_sub]
    omega
  | [], _ :: _, _, _, h, _, _ => by simp at h
  | _ :: _, [], _, _, h, _, _ => by simp at h
  | [], [], _ :: _, _, _, h, _ => by simp at h
  | [], [], [], _ :: _, _, _, h => by simp at h
  | _ :: _, _ :: _, [], _, _, h, _ => by simp at h
  | _ :: _, _ :: _, _ :: _, [], _, _, h => by simp at h

/-- an amount is right for the value of an atom in a state -/
def followsF (a : AtomD) (amount : Int) (s : Nat) : Bool :=
  if a.values[s]! = omegaI then false else if a.mod = 0 then decide (a.values[s]! ≤ amount) else restF amount a.mod == a.values[s]!
/-- a rule leads on from what the atom says -/
def keepsF (a : AtomD) (r : RD) : Bool := a.values[r.src.toNat]! == omegaI || followsF a (a.values[r.src.toNat]! + effectF a.coefs r) r.dst.toNat
/-- rules of so many states and places -/
def RightR (ns np : Nat) (r : RD) : Prop := 0 ≤ r.src ∧ r.src < ns ∧ 0 ≤ r.dst ∧ r.dst < ns ∧ r.need.length = np ∧ r.give.length = np

/-- one step -/
theorem follows_step {a : AtomD} {ns np : Nat} {r : RD} {v : List Int} (hm : 0 ≤ a.mod) (hc : a.coefs.length = np) (hv : v.length = np) (hr : RightR ns np r) (hk : keepsF a r = true)
    (h : followsF a (sumF a.coefs v) r.src.toNat = true) : followsF a (sumF a.coefs (fireF r v)) r.dst.toNat = true := by
  have e : sumF a.coefs (fireF r v) = sumF a.coefs v + effectF a.coefs r := sum_fireL (by omega) (by rw [hr.2.2.2.2.1, hv]) (by rw [hr.2.2.2.2.2, hv])
  rw [e]
  generalize sumF a.coefs v = n at h
  unfold keepsF at hk
  unfold followsF at *
  generalize a.values[r.src.toNat]! = p at *
  generalize a.values[r.dst.toNat]! = q at *
  generalize effectF a.coefs r = d at *
  split at h
  · cases h
  · rename_i hp
    rw [beq_eq_false_iff_ne.2 hp, Bool.false_or] at hk
    split at hk
    · cases hk
    · rename_i hq
      rw [if_neg hq]
      by_cases h0 : a.mod = 0
      · rw [if_pos h0] at *
        simp only [decide_eq_true_eq] at *
        omega
      · rw [if_neg h0] at *
        have hpos : 0 < a.mod := by omega
        rw [restF_emod hpos, beq_iff_eq] at *
        rw [← hk, ← h]
        rw [Int.emod_add_emod]

/-! ### the strongest atom -/
/-- values of b are at most those of a, where a has values (modulo: the same) -/
def AboveV (mod : Int) (a b : List Int) (s : Nat) : Prop := a[s]! ≠ omegaI → b[s]! ≠ omegaI ∧ if mod = 0 then b[s]! ≤ a[s]! else b[s]! = a[s]!
/-- a rule leads from a's value on, b is closed -/
theorem above_step {a : List Int} {b : AtomD} {r : RD} {x y : Nat} {n : Int} (hm : 0 ≤ b.mod) (hx : r.src.toNat = x) (hy : r.dst.toNat = y) (h : AboveV b.mod a b.values x) (ha : a[x]! ≠ omegaI) (hk : keepsF b r = true)
    (hn : n = if 0 < b.mod then restF (a[x]! + effectF b.coefs r) b.mod else a[x]! + effectF b.coefs r) : b.values[y]! ≠ omegaI ∧ if b.mod = 0 then b.values[y]! ≤ n else b.values[y]! = n := by
  obtain ⟨h1, h2⟩ := h ha
  unfold keepsF at hk
  rw [hx, hy, beq_eq_false_iff_ne.2 h1, Bool.false_or] at hk
  unfold followsF at hk
  generalize b.values[x]! = p at *
  generalize b.values[y]! = q at *
  generalize effectF b.coefs r = d at *
  generalize a[x]! = u at *
  split at hk
  · cases hk
  · rename_i hq
    refine ⟨hq, ?_⟩
    by_cases h0 : b.mod = 0
    · rw [if_pos h0] at *
      rw [if_neg (by omega)] at hn
      simp only [decide_eq_true_eq] at hk
      omega
    · rw [if_neg h0] at *
      rw [if_pos (by omega)] at hn
      rw [beq_iff_eq] at hk
      rw [hn, ← h2, hk]
theorem follows_above {a b : AtomD} {s : Nat} {n : Int} (hb : b.mod = a.mod) (h : AboveV a.mod a.values b.values s) (hf : followsF a n s = true) : followsF b n s = true := by
  unfold followsF at *
  split at hf
  · cases hf
  · rename_i hp
    obtain ⟨h1, h2⟩ := h hp
    rw [if_neg h1, hb]
    by_cases h0 : a.mod = 0
    · rw [if_pos h0] at *
      simp only [decide_eq_true_eq] at *
      omega
    · rw [if_neg h0] at *
      rw [h2]; exact hf
/-- all of an inequality's values less by one number -/
theorem keeps_less {a b : AtomD} {by_ : Int} {r : RD} (hm : a.mod = 0) (hb : b.mod = 0) (hc : b.coefs = a.coefs) (_hby : 0 ≤ by_)
    (hv : ∀ s : Nat, b.values[s]! = if a.values[s]! = omegaI then omegaI else a.values[s]! - by_) (hn : ∀ s : Nat, b.values[s]! = omegaI → a.values[s]! = omegaI) (h : keepsF a r = true) : keepsF b r = true := by
  unfold keepsF at *
  rw [Bool.or_eq_true] at *
  by_cases hp : a.values[r.src.toNat]! = omegaI
  · exact .inl (by rw [hv, if_pos hp]; simp)
  · right
    have h := h.resolve_left (by rw [beq_iff_eq]; exact hp)
    unfold followsF at *
    by_cases hq : a.values[r.dst.toNat]! = omegaI
    · rw [if_pos hq] at h; cases h
    · rw [if_neg hq, if_pos hm] at h
      rw [if_neg (fun e => hq (hn _ e)), if_pos hb, hc, hv, hv, if_neg hp, if_neg hq]
      simp only [decide_eq_true_eq] at *
      omega

/-! ### the strongest atom, as it is found -/
def nextF (mod : Int) (coefs : List Int) (r : RD) (v : List Int) : Int :=
  if 0 < mod then restF (v[r.src.toNat]! + effectF coefs r) mod else v[r.src.toNat]! + effectF coefs r
/-- one rule: changed, possible, the values behind it -/
def flowF (mod : Int) (coefs : List Int) (r : RD) (v : List Int) : Bool × Bool × List Int :=
  if v[r.src.toNat]! = omegaI then (false, true, v)
  else if v[r.dst.toNat]! = omegaI ∨ (mod = 0 ∧ nextF mod coefs r v < v[r.dst.toNat]!) then (true, true, v.set r.dst.toNat (nextF mod coefs r v))
  else if 0 < mod ∧ nextF mod coefs r v ≠ v[r.dst.toNat]! then (false, false, v) else (false, true, v)
def roundF (mod : Int) (coefs : List Int) : List RD → Bool → List Int → Option (Bool × List Int)
  | [], ch, v => some (ch, v)
  | r :: rs, ch, v => if (flowF mod coefs r v).2.1 then roundF mod coefs rs (ch || (flowF mod coefs r v).1) (flowF mod coefs r v).2.2 else none
/-- at most n + 1 rounds -/
def potF (mod : Int) (coefs : List Int) (rules : List RD) : Nat → List Int → Option (List Int)
  | 0, v => match roundF mod coefs rules false v with
    | some (false, w) => some w
    | _ => none
  | n + 1, v => match roundF mod coefs rules false v with
    | some (false, w) => some w
    | some (true, w) => potF mod coefs rules n w
    | none => none

theorem flow_len (mod : Int) (coefs : List Int) (r : RD) (v : List Int) : (flowF mod coefs r v).2.2.length = v.length := by
  unfold flowF; split <;> (try split) <;> (try split) <;> simp
theorem flow_same {mod : Int} {coefs : List Int} {r : RD} {v : List Int} (hm : 0 ≤ mod) (h1 : (flowF mod coefs r v).1 = false) (h2 : (flowF mod coefs r v).2.1 = true) :
    (flowF mod coefs r v).2.2 = v ∧ keepsF ⟨coefs, mod, v⟩ r = true := by
  unfold flowF at *
  unfold keepsF followsF
  split at h1
  · rename_i h; rw [if_pos h]; exact ⟨rfl, by simp [h]⟩
  · rename_i h
    split at h1
    · cases h1
    · rename_i h3
      have hy : v[r.dst.toNat]! ≠ omegaI := fun e => h3 (.inl e)
      rw [if_neg h, if_neg h3] at *
      split at h2
      · cases h2
      · rename_i h4
        rw [if_neg h4]
        refine ⟨rfl, ?_⟩
        show (v[r.src.toNat]! == omegaI || if v[r.dst.toNat]! = omegaI then false else if mod = 0 then decide (v[r.dst.toNat]! ≤ v[r.src.toNat]! + effectF coefs r) else restF (v[r.src.toNat]! + effectF coefs r) mod == v[r.dst.toNat]!) = true
        rw [if_neg hy, beq_eq_false_iff_ne.2 h, Bool.false_or]
        by_cases h0 : mod = 0
        · have h5 : ¬ nextF mod coefs r v < v[r.dst.toNat]! := fun hl => h3 (.inr ⟨h0, hl⟩)
          unfold nextF at h5
          rw [if_neg (show ¬ 0 < mod by omega)] at h5
          rw [if_pos h0]
          simp only [decide_eq_true_eq]; omega
        · have hp : 0 < mod := by omega
          have h5 : nextF mod coefs r v = v[r.dst.toNat]! := Classical.byContradiction fun hn => h4 ⟨hp, hn⟩
          unfold nextF at h5
          rw [if_pos hp] at h5
          rw [if_neg h0, beq_iff_eq]; exact h5
theorem round_same {mod : Int} {coefs : List Int} (hm : 0 ≤ mod) : ∀ {rs : List RD} {ch : Bool} {v w : List Int}, roundF mod coefs rs ch v = some (false, w) →
    ch = false ∧ w = v ∧ ∀ r ∈ rs, keepsF ⟨coefs, mod, v⟩ r = true
  | [], ch, v, w, h => by
    rw [roundF] at h
    injection h with h; injection h with h1 h2
    exact ⟨h1, h2.symm, fun r hr => by simp at hr⟩
  | r :: rs, ch, v, w, h => by
    rw [roundF] at h
    split at h
    · rename_i hok
      obtain ⟨h1, h2, h3⟩ := round_same hm h
      rw [Bool.or_eq_false_iff] at h1
      obtain ⟨h4, h5⟩ := flow_same hm h1.2 hok
      rw [h4] at h2 h3
      refine ⟨h1.1, h2, fun x hx => ?_⟩
      rw [List.mem_cons] at hx
      rcases hx with rfl | hx
      · exact h5
      · exact h3 x hx
    · cases h
/-- what is found is closed under the rules -/
theorem pot_keeps {mod : Int} {coefs : List Int} {rs : List RD} (hm : 0 ≤ mod) : ∀ {n : Nat} {v w : List Int}, potF mod coefs rs n v = some w → ∀ r ∈ rs, keepsF ⟨coefs, mod, w⟩ r = true
  | 0, v, w, h => by
    rw [potF] at h
    split at h
    · rename_i e
      injection h with h; subst h
      obtain ⟨_, h2, h3⟩ := round_same hm e
      rw [h2]; exact h3
    · cases h
  | n + 1, v, w, h => by
    rw [potF] at h
    split at h
    · rename_i e
      injection h with h; subst h
      obtain ⟨_, h2, h3⟩ := round_same hm e
      rw [h2]; exact h3
    · exact pot_keeps hm h
    · cases h
/-- an invariant of one rule's flow is one of the whole search -/
theorem round_inv {mod : Int} {coefs : List Int} {P : List Int → Prop} : ∀ {rs : List RD} (_ : ∀ r ∈ rs, ∀ v, P v → P (flowF mod coefs r v).2.2) {ch c : Bool} {v w : List Int}, P v → roundF mod coefs rs ch v = some (c, w) → P w
  | [], _, ch, c, v, w, hv, h => by
    rw [roundF] at h
    injection h with h; injection h with h1 h2
    exact h2 ▸ hv
  | r :: rs, hP, ch, c, v, w, hv, h => by
    rw [roundF] at h
    split at h
    · exact round_inv (fun x hx => hP x (List.mem_cons_of_mem _ hx)) (hP r (List.mem_cons_self ..) v hv) h
    · cases h
theorem pot_inv {mod : Int} {coefs : List Int} {P : List Int → Prop} {rs : List RD} (hP : ∀ r ∈ rs, ∀ v, P v → P (flowF mod coefs r v).2.2) : ∀ {n : Nat} {v w : List Int}, P v → potF mod coefs rs n v = some w → P w
  | 0, v, w, hv, h => by
    rw [potF] at h
    split at h
    · rename_i e; injection h with h; subst h; exact round_inv hP hv e
    · cases h
  | n + 1, v, w, hv, h => by
    rw [potF] at h
    split at h
    · rename_i e; injection h with h; subst h; exact round_inv hP hv e
    · rename_i e; exact pot_inv hP (round_inv hP hv e) h
    · cases h
theorem set_bang {l : List Int} {i j : Nat} {x : Int} (h : i < l.length) : (l.set i x)[j]! = if i = j then x else l[j]! := by
  by_cases e : i = j
  · subst e; simp [h]
  · rw [getElem!_def, List.getElem?_set_ne e, if_neg e, getElem!_def]
/-- a closed atom lies below what is found, and a rule's flow is possible -/
theorem flow_above {b : AtomD} {r : RD} {v : List Int} (hm : 0 ≤ b.mod) (hy : r.dst.toNat < v.length) (hk : keepsF b r = true) (h : ∀ s, AboveV b.mod v b.values s) :
    (flowF b.mod b.coefs r v).2.1 = true ∧ ∀ s, AboveV b.mod (flowF b.mod b.coefs r v).2.2 b.values s := by
  by_cases hx : v[r.src.toNat]! = omegaI
  · unfold flowF; rw [if_pos hx]; exact ⟨rfl, h⟩
  have hn := above_step hm rfl rfl (h r.src.toNat) hx hk (n := nextF b.mod b.coefs r v) (by unfold nextF; rfl)
  unfold flowF
  rw [if_neg hx]
  split
  · refine ⟨rfl, fun s => ?_⟩
    unfold AboveV
    show (v.set r.dst.toNat (nextF b.mod b.coefs r v))[s]! ≠ omegaI → _ ∧ if b.mod = 0 then _ ≤ (v.set r.dst.toNat (nextF b.mod b.coefs r v))[s]! else _ = (v.set r.dst.toNat (nextF b.mod b.coefs r v))[s]!
    rw [set_bang hy]
    by_cases e : r.dst.toNat = s
    · rw [if_pos e, ← e]; exact fun _ => hn
    · rw [if_neg e]; exact h s
  · rename_i h3
    split
    · rename_i h4
      have h5 := (h r.dst.toNat fun e => h3 (.inl e)).2
      rw [if_neg (by omega)] at h5
      have h6 := hn.2
      rw [if_neg (by omega)] at h6
      exact absurd (by rw [← h6, h5]) h4.2
    · exact ⟨rfl, h⟩
/-- the value at a state that has one only gets less -/
theorem flow_low {mod : Int} {coefs : List Int} {r : RD} {v : List Int} {s : Nat} (hy : r.dst.toNat < v.length) (hs : v[s]! ≠ omegaI) :
    if mod = 0 then (flowF mod coefs r v).2.2[s]! ≤ v[s]! else (flowF mod coefs r v).2.2[s]! = v[s]! := by
  have key : (flowF mod coefs r v).2.2[s]! = v[s]! ∨ (mod = 0 ∧ (flowF mod coefs r v).2.2[s]! ≤ v[s]!) := by
    unfold flowF
    split
    · exact .inl rfl
    · split
      · rename_i h3
        show (v.set r.dst.toNat (nextF mod coefs r v))[s]! = _ ∨ (mod = 0 ∧ (v.set r.dst.toNat (nextF mod coefs r v))[s]! ≤ _)
        rw [set_bang hy]
        by_cases e : r.dst.toNat = s
        · rw [if_pos e]
          rcases h3 with h3 | h3
          · exact absurd (e ▸ h3) hs
          · right; rw [e] at h3; exact ⟨h3.1, by omega⟩
        · rw [if_neg e]; exact .inl rfl
      · split <;> exact .inl rfl
  by_cases h0 : mod = 0
  · rw [if_pos h0]; rcases key with k | k <;> omega
  · rw [if_neg h0]; rcases key with k | k
    · exact k
    · exact absurd k.1 h0

/-! ### the search ends: models of at most two states -/
/-- a rule that changes nothing -/
theorem flow_stay {b : AtomD} {r : RD} {v : List Int} (hm : 0 ≤ b.mod) (hk : keepsF b r = true) (h : ∀ s, AboveV b.mod v b.values s)
    (hs : v[r.src.toNat]! = omegaI ∨ (v[r.dst.toNat]! ≠ omegaI ∧ (b.mod = 0 → v[r.dst.toNat]! - b.values[r.dst.toNat]! ≤ v[r.src.toNat]! - b.values[r.src.toNat]!))) : flowF b.mod b.coefs r v = (false, true, v) := by
  unfold flowF
  by_cases hx : v[r.src.toNat]! = omegaI
  · rw [if_pos hx]
  have hs := hs.resolve_left hx
  have hn := above_step hm rfl rfl (h r.src.toNat) hx hk (n := nextF b.mod b.coefs r v) (by unfold nextF; rfl)
  have hy := (h r.dst.toNat hs.1).2
  have hxb := (h r.src.toNat hx).1
  rw [if_neg hx]
  by_cases h0 : b.mod = 0
  · have h1 : b.values[r.dst.toNat]! ≤ b.values[r.src.toNat]! + effectF b.coefs r := by
      unfold keepsF at hk
      rw [beq_eq_false_iff_ne.2 hxb, Bool.false_or] at hk
      unfold followsF at hk
      rw [if_neg hn.1, if_pos h0] at hk
      simpa using hk
    have h2 : nextF b.mod b.coefs r v = v[r.src.toNat]! + effectF b.coefs r := by unfold nextF; rw [if_neg (by omega)]
    have h3 := hs.2 h0
    rw [if_neg (fun e => e.elim hs.1 fun e => by omega), if_neg (fun e => by omega)]
  · rw [if_neg h0] at hn hy
    rw [if_neg (fun e => e.elim hs.1 fun e => h0 e.1), if_neg (fun e => e.2 (by rw [← hn.2, hy]))]

/-- what a second state's value may be -/
def Q2 (b : AtomD) (d u : Int) : Prop := u = omegaI ∨ (b.values[1]! ≠ omegaI ∧ if b.mod = 0 then d - b.values[0]! + b.values[1]! ≤ u else b.values[1]! = u)
/-- the first state's value -/
def Q1 (b : AtomD) (d : Int) : Prop := d ≠ omegaI ∧ b.values[0]! ≠ omegaI ∧ if b.mod = 0 then b.values[0]! ≤ d else b.values[0]! = d
def below2 (b : AtomD) (d u : Int) (r : RD) : Prop := r.src = 0 ∧ r.dst = 1 → u ≠ omegaI ∧ (b.mod = 0 → u ≤ nextF b.mod b.coefs r [d, u])
theorem next_first {mod : Int} {coefs : List Int} {r : RD} {d u w : Int} (h : r.src = 0) : nextF mod coefs r [d, u] = nextF mod coefs r [d, w] := by
  unfold nextF; rw [h]; rfl
theorem above2 {b : AtomD} {d u : Int} (h1 : Q1 b d) (h2 : Q2 b d u) (hb : b.values.length = 2) : ∀ s, AboveV b.mod [d, u] b.values s
  | 0 => fun _ => h1.2
  | 1 => fun h => by
    have h3 := h2.resolve_left h
    refine ⟨h3.1, ?_⟩
    have h4 := h1.2.2
    have h5 := h3.2
    show if b.mod = 0 then b.values[1]! ≤ u else b.values[1]! = u
    split
    · rename_i h0; rw [if_pos h0] at h4 h5; omega
    · rename_i h0; rw [if_neg h0] at h5; exact h5
  | s + 2 => fun _ => by
    have e1 : b.values[s + 2]! = 0 := by rw [getElem!_neg b.values (s + 2) (by omega)]; rfl
    have e2 : ([d, u] : List Int)[s + 2]! = 0 := rfl
    rw [e1, e2]
    refine ⟨by decide, ?_⟩
    split
    · exact Int.le_refl _
    · rfl
theorem flow_two {b : AtomD} {r : RD} {d u : Int} (hm : 0 ≤ b.mod) (hb : b.values.length = 2) (h1 : Q1 b d) (h2 : Q2 b d u) (hr : (r.src = 0 ∨ r.src = 1) ∧ (r.dst = 0 ∨ r.dst = 1)) (hk : keepsF b r = true)
    (hs : below2 b d u r) : flowF b.mod b.coefs r [d, u] = (false, true, [d, u]) := by
  have ha := above2 h1 h2 hb
  by_cases h01 : r.src = 0 ∧ r.dst = 1
  · obtain ⟨hu, hle⟩ := hs h01
    have e1 : ([d, u] : List Int)[r.dst.toNat]! = u := by rw [h01.2]; rfl
    have e0 : ([d, u] : List Int)[r.src.toNat]! = d := by rw [h01.1]; rfl
    have hn := above_step hm rfl rfl (ha r.src.toNat) (by rw [e0]; exact h1.1) hk (n := nextF b.mod b.coefs r [d, u]) (by unfold nextF; rfl)
    have hy := (ha r.dst.toNat (by rw [e1]; exact hu)).2
    unfold flowF
    rw [e0, e1, if_neg h1.1]
    rw [e1] at hy
    by_cases h0 : b.mod = 0
    · have h3 := hle h0
      rw [if_neg (fun e => e.elim hu fun e => by omega), if_neg (fun e => by omega)]
    · rw [if_neg h0] at hn hy
      rw [if_neg (fun e => e.elim hu fun e => h0 e.1), if_neg (fun e => e.2 (by rw [← hn.2, hy]))]
  · refine flow_stay hm hk ha ?_
    have h4 := h1.1
    rcases hr with ⟨hx | hx, hy | hy⟩
    · rw [hx, hy]; exact .inr ⟨h4, fun _ => Int.le_refl _⟩
    · exact absurd ⟨hx, hy⟩ h01
    · rw [hx, hy]
      show u = omegaI ∨ (d ≠ omegaI ∧ (b.mod = 0 → d - b.values[0]! ≤ u - b.values[1]!))
      rcases h2 with h2 | h2
      · exact .inl h2
      · refine .inr ⟨h4, fun h0 => ?_⟩
        have := h2.2; rw [if_pos h0] at this; omega
    · rw [hx, hy]
      show u = omegaI ∨ (u ≠ omegaI ∧ _)
      by_cases hu : u = omegaI
      · exact .inl hu
      · exact .inr ⟨hu, fun _ => Int.le_refl _⟩
/-- one rule, whatever the second state's value is -/
theorem flow_two' {b : AtomD} {r : RD} {d u : Int} (hm : 0 ≤ b.mod) (hb : b.values.length = 2) (h1 : Q1 b d) (h2 : Q2 b d u) (hr : (r.src = 0 ∨ r.src = 1) ∧ (r.dst = 0 ∨ r.dst = 1)) (hk : keepsF b r = true)
    (hw : r.src = 0 → nextF b.mod b.coefs r [d, u] ≠ omegaI) :
    ∃ c u', flowF b.mod b.coefs r [d, u] = (c, true, [d, u']) ∧ Q2 b d u' ∧ (u ≠ omegaI → u' ≠ omegaI ∧ (b.mod = 0 → u' ≤ u)) ∧ below2 b d u' r := by
  by_cases hs : below2 b d u r
  · exact ⟨false, u, flow_two hm hb h1 h2 hr hk hs, h2, fun h => ⟨h, fun _ => Int.le_refl _⟩, hs⟩
  · have h01 : r.src = 0 ∧ r.dst = 1 := Classical.byContradiction fun hn => hs fun h => absurd h hn
    have hn : u = omegaI ∨ (b.mod = 0 ∧ nextF b.mod b.coefs r [d, u] < u) := by
      refine Classical.byContradiction fun hn => hs fun _ => ⟨fun e => hn (.inl e), fun h0 => ?_⟩
      have := fun h => hn (.inr ⟨h0, h⟩)
      omega
    have ha := above2 h1 h2 hb
    have e1 : ([d, u] : List Int)[r.dst.toNat]! = u := by rw [h01.2]; rfl
    have e0 : ([d, u] : List Int)[r.src.toNat]! = d := by rw [h01.1]; rfl
    have hstep := above_step hm rfl rfl (ha r.src.toNat) (by rw [e0]; exact h1.1) hk (n := nextF b.mod b.coefs r [d, u]) (by unfold nextF; rfl)
    have hkk := hk
    rw [h01.2] at hstep
    refine ⟨true, nextF b.mod b.coefs r [d, u], ?_, ?_, fun hu => ⟨hw h01.1, fun h0 => ?_⟩, fun _ => ⟨hw h01.1, fun _ => ?_⟩⟩
    · unfold flowF
      rw [e0, e1, if_neg h1.1, if_pos hn, h01.2]; rfl
    · right
      refine ⟨hstep.1, ?_⟩
      by_cases h0 : b.mod = 0
      · rw [if_pos h0]
        unfold keepsF at hkk
        rw [h01.1, h01.2] at hkk
        have hb0 := h1.2.1
        have e3 : (b.values[(0 : Int).toNat]! == omegaI) = false := beq_eq_false_iff_ne.2 hb0
        rw [e3, Bool.false_or] at hkk
        unfold followsF at hkk
        rw [if_neg hstep.1, if_pos h0] at hkk
        have h5 : b.values[1]! ≤ b.values[0]! + effectF b.coefs r := by simpa using hkk
        have h2' : nextF b.mod b.coefs r [d, u] = d + effectF b.coefs r := by unfold nextF; rw [if_neg (by omega), h01.1]; rfl
        omega
      · rw [if_neg h0]
        have := hstep.2
        rw [if_neg h0] at this; exact this
    · rcases hn with hn | hn
      · exact absurd hn hu
      · omega
    · exact Int.le_of_eq (next_first h01.1)
theorem round_two {b : AtomD} {d : Int} (hm : 0 ≤ b.mod) (hb : b.values.length = 2) (h1 : Q1 b d) : ∀ {rs : List RD} (_ : ∀ r ∈ rs, ((r.src = 0 ∨ r.src = 1) ∧ (r.dst = 0 ∨ r.dst = 1)) ∧ keepsF b r = true ∧ ∀ u, r.src = 0 → nextF b.mod b.coefs r [d, u] ≠ omegaI)
    {ch : Bool} {u : Int}, Q2 b d u → ∃ c u', roundF b.mod b.coefs rs ch [d, u] = some (c, [d, u']) ∧ Q2 b d u' ∧ (u ≠ omegaI → u' ≠ omegaI ∧ (b.mod = 0 → u' ≤ u)) ∧ ∀ r ∈ rs, below2 b d u' r
  | [], _, ch, u, h2 => ⟨ch, u, rfl, h2, fun h => ⟨h, fun _ => Int.le_refl _⟩, fun r hr => by simp at hr⟩
  | r :: rs, hr, ch, u, h2 => by
    obtain ⟨ha, hk, hw⟩ := hr r (List.mem_cons_self ..)
    obtain ⟨c, u', e1, e2, e3, e4⟩ := flow_two' hm hb h1 h2 ha hk (hw u)
    obtain ⟨c2, w, f1, f2, f3, f4⟩ := round_two hm hb h1 (fun x hx => hr x (List.mem_cons_of_mem _ hx)) (ch := ch || c) e2
    refine ⟨c2, w, ?_, f2, fun hu => ⟨(f3 (e3 hu).1).1, fun h0 => ?_⟩, fun x hx => ?_⟩
    · rw [roundF, e1, if_pos rfl]; exact f1
    · have := (f3 (e3 hu).1).2 h0
      have := (e3 hu).2 h0
      omega
    · rw [List.mem_cons] at hx
      rcases hx with rfl | hx
      · intro h01
        obtain ⟨g1, g2⟩ := e4 h01
        refine ⟨(f3 g1).1, fun h0 => ?_⟩
        have := (f3 g1).2 h0
        have := g2 h0
        rw [next_first (w := u') h01.1]
        omega
      · exact f4 x hx
theorem round_settled {b : AtomD} {d u : Int} (hm : 0 ≤ b.mod) (hb : b.values.length = 2) (h1 : Q1 b d) (h2 : Q2 b d u) : ∀ {rs : List RD} (_ : ∀ r ∈ rs, ((r.src = 0 ∨ r.src = 1) ∧ (r.dst = 0 ∨ r.dst = 1)) ∧ keepsF b r = true ∧ below2 b d u r) {ch : Bool},
    roundF b.mod b.coefs rs ch [d, u] = some (ch, [d, u])
  | [], _, ch => rfl
  | r :: rs, hr, ch => by
    obtain ⟨ha, hk, hs⟩ := hr r (List.mem_cons_self ..)
    rw [roundF, flow_two hm hb h1 h2 ha hk hs, if_pos rfl, Bool.or_false]
    exact round_settled hm hb h1 h2 fun x hx => hr x (List.mem_cons_of_mem _ hx)
/-- where a closed atom is, the search finds one: two states -/
theorem pot_two {b : AtomD} {d u : Int} {rs : List RD} {n : Nat} (hm : 0 ≤ b.mod) (hb : b.values.length = 2) (h1 : Q1 b d) (h2 : Q2 b d u)
    (hr : ∀ r ∈ rs, ((r.src = 0 ∨ r.src = 1) ∧ (r.dst = 0 ∨ r.dst = 1)) ∧ keepsF b r = true ∧ ∀ u, r.src = 0 → nextF b.mod b.coefs r [d, u] ≠ omegaI) : ∃ w, potF b.mod b.coefs rs (n + 1) [d, u] = some w := by
  obtain ⟨c, u', e1, e2, _, e4⟩ := round_two hm hb h1 hr (ch := false) h2
  rw [potF, e1]
  cases c
  · exact ⟨_, rfl⟩
  · have := round_settled hm hb h1 e2 (rs := rs) (fun r hx => ⟨(hr r hx).1, (hr r hx).2.1, e4 r hx⟩) (ch := false)
    show ∃ w, potF b.mod b.coefs rs n [d, u'] = some w
    cases n
    · rw [potF, this]; exact ⟨_, rfl⟩
    · rw [potF, this]; exact ⟨_, rfl⟩
/-- one state -/
theorem pot_one {b : AtomD} {d : Int} {rs : List RD} {n : Nat} (hm : 0 ≤ b.mod) (hb : b.values.length = 1) (h1 : Q1 b d)
    (hr : ∀ r ∈ rs, r.src = 0 ∧ r.dst = 0 ∧ keepsF b r = true) : potF b.mod b.coefs rs n [d] = some [d] := by
  have ha : ∀ s, AboveV b.mod [d] b.values s
    | 0 => fun _ => h1.2
    | s + 1 => fun _ => by
      have e1 : b.values[s + 1]! = 0 := by rw [getElem!_neg b.values (s + 1) (by omega)]; rfl
      have e2 : ([d] : List Int)[s + 1]! = 0 := rfl
      rw [e1, e2]
      refine ⟨by decide, ?_⟩
      split
      · exact Int.le_refl _
      · rfl
  have hround : ∀ {rs : List RD} (_ : ∀ r ∈ rs, r.src = 0 ∧ r.dst = 0 ∧ keepsF b r = true) {ch : Bool}, roundF b.mod b.coefs rs ch [d] = some (ch, [d]) := by
    intro rs
    induction rs with
    | nil => intro _ ch; rfl
    | cons r rs ih =>
      intro hr ch
      obtain ⟨hx, hy, hk⟩ := hr r (List.mem_cons_self ..)
      have e := flow_stay hm hk ha (by rw [hx, hy]; exact .inr ⟨h1.1, fun _ => Int.le_refl _⟩)
      rw [roundF, e, if_pos rfl, Bool.or_false]
      exact ih fun x hx => hr x (List.mem_cons_of_mem _ hx)
  have := hround hr (ch := false)
  cases n
  · rw [potF, this]
  · rw [potF, this]

/-! ### what the search begins with, and how large its values become -/
def firstF (mod f0 : Int) : Int := if 0 < mod then restF f0 mod else f0
def beginF (mod : Int) (ns : Nat) (f0 : Int) : List Int := (List.replicate ns omegaI).set 0 (firstF mod f0)
theorem begin_len (mod : Int) (ns : Nat) (f0 : Int) : (beginF mod ns f0).length = ns := by simp [beginF]
theorem begin_zero {mod : Int} {ns : Nat} {f0 : Int} (h : 0 < ns) : (beginF mod ns f0)[0]! = firstF mod f0 := by
  unfold beginF; rw [set_bang (by simpa using h), if_pos rfl]
theorem begin_succ {mod : Int} {ns s : Nat} {f0 : Int} (h : 0 < ns) (hs : s + 1 < ns) : (beginF mod ns f0)[s + 1]! = omegaI := by
  unfold beginF; rw [set_bang (by simpa using h), if_neg (by omega), getElem!_pos _ _ (by simpa using hs)]; simp
theorem first_lt {mod f0 : Int} (h : f0 < omegaI) (hm : mod ≤ omegaI) : firstF mod f0 < omegaI := by
  unfold firstF; split
  · rename_i hp
    rw [restF_emod hp]
    have := Int.emod_lt_of_pos f0 hp
    omega
  · exact h
/-- rules of so many states -/
def RulesIn (ns : Nat) (rs : List RD) : Prop := ∀ r ∈ rs, r.dst.toNat < ns
/-- what is found holds at the start -/
theorem pot_start {mod f0 : Int} {coefs : List Int} {rs : List RD} {ns n : Nat} {w : List Int} (hns : 0 < ns) (hr : RulesIn ns rs) (hm : 0 ≤ mod) (hm2 : mod ≤ omegaI) (hf : f0 < omegaI)
    (h : potF mod coefs rs n (beginF mod ns f0) = some w) : followsF ⟨coefs, mod, w⟩ f0 0 = true := by
  have hlt := first_lt hf hm2
  have key : w.length = ns ∧ (if mod = 0 then w[0]! ≤ firstF mod f0 else w[0]! = firstF mod f0) :=
    pot_inv (P := fun v => v.length = ns ∧ (if mod = 0 then v[0]! ≤ firstF mod f0 else v[0]! = firstF mod f0)) (fun r hx v ⟨h1, h2⟩ => by
      have h0 : v[0]! ≠ omegaI := by
        intro e; rw [e] at h2
        split at h2 <;> omega
      have := flow_low (mod := mod) (coefs := coefs) (r := r) (v := v) (s := 0) (by rw [h1]; exact hr r hx) h0
      refine ⟨by rw [flow_len, h1], ?_⟩
      split
      · rename_i e; rw [if_pos e] at this h2; omega
      · rename_i e; rw [if_neg e] at this h2; rw [this, h2]) ⟨begin_len .., by rw [begin_zero hns]; split; exact Int.le_refl _; rfl⟩ h
  have hw := key.2
  unfold followsF
  show (if w[0]! = omegaI then false else if mod = 0 then decide (w[0]! ≤ f0) else restF f0 mod == w[0]!) = true
  by_cases h0 : mod = 0
  · rw [if_pos h0] at hw
    have e : firstF mod f0 = f0 := by unfold firstF; rw [if_neg (by omega)]
    rw [e] at hw
    rw [if_neg (by omega), if_pos h0]
    simpa using hw
  · rw [if_neg h0] at hw
    rw [if_neg (by omega), if_neg h0, hw]
    unfold firstF
    rw [if_pos (by omega), beq_self_eq_true]
/-- a closed atom begins below -/
theorem begin_above {b : AtomD} {f0 : Int} {ns : Nat} (hns : 0 < ns) (hbl : b.values.length = ns) (hm : 0 ≤ b.mod) (hs : followsF b f0 0 = true) : ∀ s, AboveV b.mod (beginF b.mod ns f0) b.values s := by
  intro s hne
  by_cases h : s < ns
  · cases s with
    | zero =>
      rw [begin_zero hns]
      unfold followsF at hs
      split at hs
      · cases hs
      · rename_i hb
        refine ⟨hb, ?_⟩
        split at hs
        · rename_i h0; rw [if_pos h0]; unfold firstF; rw [if_neg (by omega)]; simpa using hs
        · rename_i h0; rw [if_neg h0]; unfold firstF; rw [if_pos (by omega)]; exact (beq_iff_eq.1 hs).symm
    | succ s => exact absurd (begin_succ hns h) hne
  · have e1 : b.values[s]! = 0 := by rw [getElem!_neg b.values s (by omega)]; rfl
    have e2 : (beginF b.mod ns f0)[s]! = 0 := by rw [getElem!_neg (beginF b.mod ns f0) s (by rw [begin_len]; omega)]; rfl
    rw [e1, e2]
    refine ⟨by decide, ?_⟩
    split
    · exact Int.le_refl _
    · rfl
/-- every closed atom is below what is found -/
theorem pot_above {b : AtomD} {f0 : Int} {ns n : Nat} {rs : List RD} {w : List Int} (hns : 0 < ns) (hbl : b.values.length = ns) (hr : RulesIn ns rs) (hm : 0 ≤ b.mod) (hs : followsF b f0 0 = true)
    (hk : ∀ r ∈ rs, keepsF b r = true) (h : potF b.mod b.coefs rs n (beginF b.mod ns f0) = some w) : ∀ s, AboveV b.mod w b.values s :=
  (pot_inv (P := fun v => v.length = ns ∧ ∀ s, AboveV b.mod v b.values s) (fun r hx v ⟨h1, h2⟩ => ⟨by rw [flow_len, h1], (flow_above hm (by rw [h1]; exact hr r hx) (hk r hx) h2).2⟩)
    ⟨begin_len .., begin_above hns hbl hm hs⟩ h).2

/-- values up to a bound -/
def InB (B : Int) (v : List Int) : Prop := ∀ s : Nat, v[s]! = omegaI ∨ (-B ≤ v[s]! ∧ v[s]! ≤ B)
theorem InB.mono {B C : Int} {v : List Int} (h : InB B v) (hBC : B ≤ C) : InB C v := fun s => (h s).imp id fun h => by omega
theorem flow_bnd {mod B E : Int} {coefs : List Int} {r : RD} {v : List Int} (hy : r.dst.toNat < v.length) (_hE0 : 0 ≤ E) (hB : mod ≤ B) (hE : -E ≤ effectF coefs r ∧ effectF coefs r ≤ E) (h : InB B v) :
    InB (B + E) (flowF mod coefs r v).2.2 := by
  have hv := h.mono (show B ≤ B + E by omega)
  unfold flowF
  split
  · exact hv
  · rename_i hx
    split
    · intro s
      show (v.set r.dst.toNat (nextF mod coefs r v))[s]! = omegaI ∨ _ ≤ (v.set r.dst.toNat (nextF mod coefs r v))[s]! ∧ (v.set r.dst.toNat (nextF mod coefs r v))[s]! ≤ _
      rw [set_bang hy]
      split
      · right
        have h1 := (h r.src.toNat).resolve_left hx
        unfold nextF
        split
        · rename_i hp
          rw [restF_emod hp]
          have h2 := Int.emod_lt_of_pos (v[r.src.toNat]! + effectF coefs r) hp
          have h3 := Int.emod_nonneg (v[r.src.toNat]! + effectF coefs r) (show mod ≠ 0 by omega)
          omega
        · omega
      · exact hv s
    · split <;> exact hv
theorem round_bnd {mod E : Int} {coefs : List Int} {ns : Nat} (hE0 : 0 ≤ E) : ∀ {rs : List RD} (_ : RulesIn ns rs) (_ : ∀ r ∈ rs, -E ≤ effectF coefs r ∧ effectF coefs r ≤ E) {ch c : Bool} {v w : List Int} {B : Int}, v.length = ns → mod ≤ B → InB B v →
    roundF mod coefs rs ch v = some (c, w) → w.length = ns ∧ InB (B + rs.length * E) w
  | [], _, _, ch, c, v, w, B, hl, _, hv, h => by
    rw [roundF] at h
    injection h with h; injection h with h1 h2
    subst h2
    refine ⟨hl, ?_⟩
    simpa using hv
  | r :: rs, hr, hE, ch, c, v, w, B, hl, hB, hv, h => by
    rw [roundF] at h
    split at h
    · have := round_bnd hE0 (fun x hx => hr x (List.mem_cons_of_mem _ hx)) (fun x hx => hE x (List.mem_cons_of_mem _ hx)) (by rw [flow_len, hl]) (show mod ≤ B + E by omega)
        (flow_bnd (by rw [hl]; exact hr r (List.mem_cons_self ..)) hE0 hB (hE r (List.mem_cons_self ..)) hv) h
      refine ⟨this.1, this.2.mono ?_⟩
      rw [List.length_cons, Int.natCast_add, Int.add_mul]; omega
    · cases h
theorem pot_bnd {mod E : Int} {coefs : List Int} {ns : Nat} {rs : List RD} (hE0 : 0 ≤ E) (hr : RulesIn ns rs) (hE : ∀ r ∈ rs, -E ≤ effectF coefs r ∧ effectF coefs r ≤ E) : ∀ {n : Nat} {v w : List Int} {B : Int}, v.length = ns → mod ≤ B → InB B v →
    potF mod coefs rs n v = some w → w.length = ns ∧ InB (B + (n + 1 : Nat) * (rs.length * E)) w
  | 0, v, w, B, hl, hB, hv, h => by
    rw [potF] at h
    split at h
    · rename_i e; injection h with h; subst h
      have := round_bnd hE0 hr hE hl hB hv e
      refine ⟨this.1, this.2.mono ?_⟩
      omega
    · cases h
  | n + 1, v, w, B, hl, hB, hv, h => by
    have hp : 0 ≤ (rs.length : Int) * E := Int.mul_nonneg (by omega) hE0
    have hq : 0 ≤ ((n + 1 : Nat) : Int) * (rs.length * E) := Int.mul_nonneg (by omega) hp
    have e1 : ((n + 1 + 1 : Nat) : Int) * (rs.length * E) = ((n + 1 : Nat) : Int) * (rs.length * E) + rs.length * E := by rw [Int.natCast_add (n + 1) 1, Int.add_mul]; omega
    rw [potF] at h
    split at h
    · rename_i e; injection h with h; subst h
      have := round_bnd hE0 hr hE hl hB hv e
      exact ⟨this.1, this.2.mono (by omega)⟩
    · rename_i e
      have h1 := round_bnd hE0 hr hE hl hB hv e
      have := pot_bnd hE0 hr hE h1.1 (by omega) h1.2 h
      exact ⟨this.1, this.2.mono (by omega)⟩
    · cases h
end Go.AM

/-! ## CmA -/
namespace Go.AM
open Go Go.Proofs Go.RowKit

def vStr (s : ByteArray) : AV := .sc (.string s)
def vss (l : List ByteArray) : AV := .sl 0 1 (l.map vStr)
def vTake (t : Int × Int × Int) : AV := .ag [vi t.1, vi t.2.1, vi t.2.2]
/-- a rule: 14 cells -/
def vRule (r : RD) : AV := .ag [vStr r.name, vi r.src, vi r.dst, vs 0 r.need, vs 0 r.give, vs 0 r.move, vi r.channel, vi r.act, vi r.letter, vs 0 r.path, vs 0 r.next, .sl 0 3 (r.takes.map vTake), vs 0 r.makes, vi r.second]
/-- a model -/
structure MD where
  kind : Int
  states : List ByteArray
  places : List ByteArray
  letters : List ByteArray := []
  ranks : List Int := []
  levels : Int := 0
  age : Int := 0
  rules : List RD
  start : CV
  deriving Inhabited
/-- a model: 10 cells -/
def cM (m : MD) : List AV := [vi m.kind, vss m.states, vss m.places, vss m.letters, vs 0 m.ranks, vi m.levels, vi m.age, .sl 0 14 (m.rules.map vRule), vi m.start.n, .sl 0 2 (m.start.kids.map vV)]
def vM (m : MD) : AV := .ag (cM m)

/-! ### valid counter models -/
def letterB (c : UInt8) : Bool := decide (97 ≤ c) && decide (c ≤ 122)
def digitB (c : UInt8) : Bool := decide (48 ≤ c) && decide (c ≤ 57)
def partB (c : UInt8) : Bool := letterB c || digitB c || c == 95
/-- a name -/
def wordB (s : ByteArray) : Bool := decide (0 < s.size) && decide (s.size ≤ 12) && letterB (s.get! 0) && s.toList.all partB
def kwL : List ByteArray := [⟨#[109, 111, 100, 101, 108]⟩, ⟨#[115, 116, 97, 116, 101, 115]⟩, ⟨#[112, 108, 97, 99, 101, 115]⟩, ⟨#[108, 101, 116, 116, 101, 114, 115]⟩, ⟨#[108, 101, 118, 101, 108, 115]⟩, ⟨#[97, 103, 101]⟩, ⟨#[114, 117, 108, 101]⟩, ⟨#[110, 101, 101, 100]⟩, ⟨#[103, 105, 118, 101]⟩, ⟨#[109, 111, 118, 101]⟩, ⟨#[101, 109, 112, 116, 121]⟩, ⟨#[115, 101, 110, 100]⟩, ⟨#[114, 101, 99, 101, 105, 118, 101]⟩, ⟨#[112, 97, 116, 104]⟩, ⟨#[110, 101, 120, 116]⟩, ⟨#[116, 97, 107, 101]⟩, ⟨#[109, 97, 107, 101]⟩, ⟨#[115, 116, 97, 114, 116]⟩]
def keywordB (s : ByteArray) : Bool := kwL.any fun k => s.toList == k.toList
/-- the name with a number: it is one, and not there before -/
def okN (l : List ByteArray) (i : Nat) : Bool := wordB l[i]! && !keywordB l[i]! && !((l.take i).map fun s => s.data.toList).contains l[i]!.data.toList
/-- names, each once -/
def namesB (l : List ByteArray) : Bool := (List.range l.length).all (okN l)
def namesOf (m : MD) : List ByteArray := m.states ++ m.places ++ m.letters ++ m.rules.map RD.name
def betweenB (x low high : Int) : Bool := decide (low ≤ x) && decide (x ≤ high)
def smallB (l : List Int) : Bool := l.all fun x => betweenB x 0 16
def changesB (np : Nat) (r : RD) : Bool := decide (r.need.length = np) && decide (r.give.length = np) && smallB r.need && smallB r.give
def movesB (np : Nat) (r : RD) : Bool := (r.move.length == 0) || (decide (r.move.length = np) && r.move.all fun x => betweenB x (-1) (np - 1))
def indexB (x : Int) (n : Nat) : Bool := decide (0 ≤ x) && decide (x < n)
/-- a rule of a counter model with so many states and places -/
def ruleB (ns np : Nat) (r : RD) : Bool := indexB r.dst ns && indexB r.src ns && changesB np r && movesB np r
/-- the fields of other kinds are empty -/
def bareB (r : RD) : Bool := r.channel == 0 && r.act == 0 && r.letter == 0 && r.path.length == 0 && r.next.length == 0 && r.takes.length == 0 && r.makes.length == 0 && r.second == 0
/-- a configuration with so many states and places -/
def confB (ns np : Nat) (c : CV) : Bool :=
  match c with
  | .mk n (x :: l) => n == 0 && decide (0 ≤ x.n) && decide (x.n < ns) && x.kids.length == 0 && l.length == np && l.all (fun k => decide (0 ≤ k.n) && decide (k.n ≤ 1048576) && k.kids.length == 0)
  | _ => false
structure GoodM (m : MD) : Prop where
  kind : m.kind = 1
  states : 1 ≤ m.states.length ∧ m.states.length ≤ 8
  places : 1 ≤ m.places.length ∧ m.places.length ≤ 6
  few : m.rules.length ≤ 12
  letters : m.letters = []
  ranks : m.ranks = []
  levels : m.levels = 0
  age : m.age = 0
  names : namesB (namesOf m) = true
  rules : ∀ r ∈ m.rules, ruleB m.states.length m.places.length r = true ∧ bareB r = true
  start : confB m.states.length m.places.length m.start = true
/-- a valid counter model, but for where it starts -/
structure PreM (m : MD) : Prop where
  kind : m.kind = 1
  states : 1 ≤ m.states.length ∧ m.states.length ≤ 8
  places : 1 ≤ m.places.length ∧ m.places.length ≤ 6
  few : m.rules.length ≤ 12
  letters : m.letters = []
  ranks : m.ranks = []
  levels : m.levels = 0
  age : m.age = 0
  names : namesB (namesOf m) = true
  rules : ∀ r ∈ m.rules, ruleB m.states.length m.places.length r = true ∧ bareB r = true
theorem GoodM.pre {m : MD} (h : GoodM m) : PreM m := ⟨h.kind, h.states, h.places, h.few, h.letters, h.ranks, h.levels, h.age, h.names, h.rules⟩
theorem PreM.good {m : MD} (h : PreM m) (hs : confB m.states.length m.places.length m.start = true) : GoodM m := ⟨h.kind, h.states, h.places, h.few, h.letters, h.ranks, h.levels, h.age, h.names, h.rules, hs⟩
theorem getRule {l : List RD} {i : Nat} (h : i < l.length) : (l.map vRule)[i]? = some (vRule l[i]!) := by
  rw [List.getElem?_map, List.getElem?_eq_getElem h, getElem!_pos l i h, Option.map_some]
theorem getStr {l : List ByteArray} {i : Nat} (h : i < l.length) : (l.map vStr)[i]? = some (.sc (.string l[i]!)) := by
  rw [List.getElem?_map, List.getElem?_eq_getElem h, getElem!_pos l i h, Option.map_some]; rfl
end Go.AM

/-! ## LCand -/
namespace Go.AM

/-- the k lowest digits (base 3) of a number, each less one -/
def digs : Nat → Nat → List Int
  | 0, _ => []
  | k + 1, c => (((c % 3 : Nat) : Int) - 1) :: digs k (c / 3)
theorem digs_len : ∀ k c, (digs k c).length = k
  | 0, _ => rfl
  | k + 1, c => by rw [digs, List.length_cons, digs_len k]
theorem digs_inj : ∀ k {c e : Nat}, c < 3 ^ k → e < 3 ^ k → digs k c = digs k e → c = e
  | 0, c, e, hc, he, _ => by simp at hc he; omega
  | k + 1, c, e, hc, he, h => by
    rw [digs, digs] at h
    injection h with h1 h2
    rw [Nat.pow_succ] at hc he
    have := digs_inj k (c := c / 3) (e := e / 3) (by omega) (by omega) h2
    omega
theorem digs_mem : ∀ k c x, x ∈ digs k c → -1 ≤ x ∧ x ≤ 1
  | 0, _, x, h => by simp [digs] at h
  | k + 1, c, x, h => by
    rw [digs, List.mem_cons] at h
    rcases h with rfl | h
    · omega
    · exact digs_mem k _ x h
theorem digs_at : ∀ k c i, i < k → (digs k c)[i]! = ((c / 3 ^ i % 3 : Nat) : Int) - 1
  | k + 1, c, 0, _ => by simp [digs]
  | k + 1, c, i + 1, h => by
    rw [digs, List.getElem!_cons_succ, digs_at k _ i (by omega), Nat.div_div_eq_div_mul, Nat.pow_succ, Nat.mul_comm 3]
/-- the modulus of a candidate -/
def candMod (k n : Nat) : Nat := if n / 3 ^ k = 0 then 0 else n / 3 ^ k + 1
theorem candMod_ne (k n : Nat) : candMod k n ≠ 1 := by unfold candMod; split <;> omega
theorem candMod_le {k n : Nat} (h : n < 8 * 3 ^ k) : candMod k n ≤ 8 := by
  have : n / 3 ^ k < 8 := (Nat.div_lt_iff_lt_mul (Nat.pow_pos (by decide))).2 h
  unfold candMod; split <;> omega
theorem cand_inj {k n m : Nat} (h1 : candMod k n = candMod k m) (h2 : digs k (n % 3 ^ k) = digs k (m % 3 ^ k)) : n = m := by
  have hp : 0 < 3 ^ k := Nat.pow_pos (by decide)
  have e1 := digs_inj k (Nat.mod_lt n hp) (Nat.mod_lt m hp) h2
  have e2 : n / 3 ^ k = m / 3 ^ k := by
    unfold candMod at h1
    revert h1
    generalize n / 3 ^ k = x
    generalize m / 3 ^ k = y
    intro h1
    split at h1 <;> split at h1 <;> omega
  rw [← Nat.div_add_mod n (3 ^ k), ← Nat.div_add_mod m (3 ^ k), e1, e2]
/-- the next ones, up to 20 further, are others -/
theorem cand_next {t n p : Nat} (ht : 24 ≤ t) (hp : p < 20) : n % t ≠ (n + 1 + p) % t := by
  intro h
  have h2 : (n + 1 + p) % t = (n % t + (1 + p)) % t := by rw [Nat.add_assoc, Nat.add_mod, Nat.mod_eq_of_lt (show 1 + p < t by omega)]
  have h1 := Nat.mod_lt n (show 0 < t by omega)
  rw [h2] at h
  revert h h1
  generalize n % t = r
  intro h h1
  by_cases hl : r + (1 + p) < t
  · rw [Nat.mod_eq_of_lt hl] at h; omega
  · have e2 : r + (1 + p) = t + (r + (1 + p) - t) := by omega
    have e3 : (r + (1 + p)) % t = r + (1 + p) - t := by
      rw [e2, Nat.add_mod_left, Nat.mod_eq_of_lt (by omega)]; omega
    rw [e3] at h; omega
end Go.AM

/-! ## CmD -/
namespace Go.AM
open Go Go.Proofs Go.RowKit

/-- the dice, as they lie in memory -/
def diceA (l : List Int) (at_ : Nat) : List AV := [.sl 0 1 (l.map vu), .sc (.int .i64 at_)]
attribute [go_sem] diceA
/-- seeds -/
def Seeds (l : List Int) : Prop := l.length ≤ 200 ∧ ∀ x ∈ l, 0 ≤ x ∧ x < 256

def pickV (l : List Int) (at_ : Nat) (n : Int) : Int := if l.length ≤ at_ then 0 else l[at_]! % n
def pickA (l : List Int) (at_ : Nat) : Nat := if l.length ≤ at_ then at_ else at_ + 1
theorem pickV_lt {l : List Int} {at_ : Nat} {n : Int} (hn : 1 ≤ n) : 0 ≤ pickV l at_ n ∧ pickV l at_ n < n := by
  unfold pickV
  split
  · omega
  · exact ⟨Int.emod_nonneg _ (by omega), Int.emod_lt_of_pos _ (by omega)⟩
theorem pickA_le {l : List Int} {at_ : Nat} (h : at_ ≤ l.length) : pickA l at_ ≤ l.length := by
  unfold pickA; split <;> omega

theorem pow3_le {k : Nat} (h : k ≤ 6) : 3 ^ k ≤ 729 := Nat.le_trans (Nat.pow_le_pow_right (by decide) h) (by decide : 3 ^ 6 ≤ 729)
theorem wrap_mul3 {x : Nat} (h : x ≤ 729) : IntKind.i64.wrap ((x : Int) * 3) = ((x * 3 : Nat) : Int) := by rw [wrap_in (by omega) (by omega)]; omega
theorem wrap_mul8 {x : Nat} (h : x ≤ 729) : IntKind.i64.wrap (8 * (x : Int)) = ((8 * x : Nat) : Int) := by rw [wrap_in (by omega) (by omega)]; omega
theorem wrap_nat {x : Nat} (h : x ≤ 9223372036854775807) : IntKind.i64.wrap (x : Int) = (x : Int) := wrap_in (by omega) (by omega)
theorem digs_step {k c i : Nat} (h : i < k) : (digs k c).take (i + 1) = (digs k c).take i ++ [((c / 3 ^ i % 3 : Nat) : Int) - 1] := by
  rw [List.take_add_one, List.getElem?_eq_getElem (by rw [digs_len]; exact h), ← getElem!_pos _ _ (by rw [digs_len]; exact h), digs_at k c i h]; rfl
theorem dig_div {c i : Nat} (h : c ≤ 9223372036854775807) : IntKind.i64.wrap (Int.tdiv ((c / 3 ^ i : Nat) : Int) 3) = ((c / 3 ^ (i + 1) : Nat) : Int) := by
  have e : c / 3 ^ (i + 1) = c / 3 ^ i / 3 := by rw [Nat.pow_succ, Nat.div_div_eq_div_mul]
  rw [e]
  have h2 := Nat.div_le_self c (3 ^ i)
  revert h2
  generalize c / 3 ^ i = x
  intro h2
  exact wrap_nat (x := x / 3) (by omega)
theorem dig_mod {c : Nat} : IntKind.i64.wrap (Int.tmod (c : Int) 3 - 1) = ((c % 3 : Nat) : Int) - 1 := by
  show IntKind.i64.wrap (((c % 3 : Nat) : Int) - 1) = _
  exact wrap_in (by omega) (by omega)
theorem dig_round {k c i : Nat} (h : i < k) : (((digs k c).take i ++ List.replicate (k - i) 0).map vi).modify i (updElem 0 [.sc (.int .i64 (((c / 3 ^ i % 3 : Nat) : Int) - 1))]) = ((digs k c).take (i + 1) ++ List.replicate (k - (i + 1)) 0).map vi := by
  have hl : ((digs k c).take i).length = i := by rw [List.length_take, digs_len]; omega
  have e1 : List.replicate (k - i) (0 : Int) = 0 :: List.replicate (k - (i + 1)) 0 := by rw [show k - i = (k - (i + 1)) + 1 by omega, List.replicate_succ]
  rw [modify_vi, digs_step h, e1, List.set_append_right _ _ (by omega), hl, Nat.sub_self, List.set_cons_zero, List.append_assoc]
  rfl
end Go.AM

/-! ## CmE -/
namespace Go.AM
open Go Go.Proofs Go.RowKit

set_option maxRecDepth 100000 in
theorem con_between (x low high : Int) : Con Tryz.prog 64 [vi x, vi low, vi high] [] fun r _ => r = vb (betweenB x low high) := by
  refine Con.intro Tryz.func64 rfl Tryz.ntmps64 Tryz.results64 (by kernel_rfl) (by simp) 0 (by simp) ?_
  unfold betweenB
  by_cases h1 : low ≤ x
  · by_cases h2 : x ≤ high
    · simp only [go_sem, h1, h2, Bool.and_true]
    · simp only [go_sem, h1, h2, Bool.and_false]
  · simp only [go_sem, h1, Bool.false_and]
set_option maxRecDepth 100000 in
theorem con_index (x : Int) (n : Int) (h1 : 0 ≤ n) (h2 : n ≤ 9223372036854775807) : Con Tryz.prog 118 [vi x, vi n] [] fun r _ => r = vb (decide (0 ≤ x) && decide (x < n)) := by
  refine Con.intro Tryz.func118 rfl Tryz.ntmps118 Tryz.results118 (by kernel_rfl) (by simp) 0 (by simp) ?_
  have hw : IntKind.i64.wrap (n - 1) = n - 1 := wrap_in (by omega) (by omega)
  have e : betweenB x 0 (n - 1) = (decide (0 ≤ x) && decide (x < n)) := by
    unfold betweenB
    congr 1
    exact decide_eq_decide.2 (by omega)
  simp only [go_sem, hw]
  refine CallU.free (con_between x 0 (n - 1)) (by simp only [go_sem]) (by simp only [go_sem]) ?_
  rintro r bx rfl
  simp only [go_sem, e]
theorem sum_take : ∀ {c v : List Int} {i : Nat}, i < c.length → i < v.length → sumF (c.take (i + 1)) (v.take (i + 1)) = sumF (c.take i) (v.take i) + c[i]! * v[i]!
  | c :: cs, v :: vs, 0, _, _ => by simp [sumF]
  | c :: cs, v :: vs, i + 1, h1, h2 => by
    rw [List.take_succ_cons, List.take_succ_cons, List.take_succ_cons, List.take_succ_cons, sumF, sumF, sum_take (by simpa using h1) (by simpa using h2), List.getElem!_cons_succ, List.getElem!_cons_succ]
    omega
  | [], _, _, h, _ => by simp at h
  | _ :: _, [], _, _, h => by simp at h
theorem sum_cut : ∀ {c v : List Int}, c.length ≤ v.length → sumF c (v.take c.length) = sumF c v
  | [], _, _ => rfl
  | c :: cs, v :: vs, h => by rw [List.length_cons, List.take_succ_cons, sumF, sumF, sum_cut (by simpa using h)]
  | _ :: _, [], h => by simp at h
/-- small enough -/
def SmallI (B : Int) (l : List Int) : Prop := ∀ x ∈ l, -B ≤ x ∧ x ≤ B
theorem mul_small {c x : Int} (hc : -4 ≤ c ∧ c ≤ 4) (hx : -1048576 ≤ x ∧ x ≤ 1048576) : -4194304 ≤ c * x ∧ c * x ≤ 4194304 := by
  obtain h | h | h | h | h | h | h | h | h : c = -4 ∨ c = -3 ∨ c = -2 ∨ c = -1 ∨ c = 0 ∨ c = 1 ∨ c = 2 ∨ c = 3 ∨ c = 4 := by omega
  all_goals (subst h; omega)
theorem sum_small : ∀ {c v : List Int}, SmallI 4 c → SmallI 1048576 v → -(4194304 * (c.length : Int)) ≤ sumF c v ∧ sumF c v ≤ 4194304 * c.length
  | [], v, _, _ => by simp [sumF]
  | c :: cs, [], _, _ => by simp only [sumF, List.length_cons]; omega
  | c :: cs, x :: vs, h1, h2 => by
    have h3 := sum_small (c := cs) (v := vs) (fun y hy => h1 y (List.mem_cons_of_mem _ hy)) (fun y hy => h2 y (List.mem_cons_of_mem _ hy))
    have h4 := mul_small (h1 c (List.mem_cons_self ..)) (h2 x (List.mem_cons_self ..))
    simp only [sumF, List.length_cons]; omega
end Go.AM

/-! ## CmF -/
namespace Go.AM
open Go Go.Proofs Go.RowKit

def vAtom (a : AtomD) : AV := .ag [vs 0 a.coefs, vi a.mod, vs 0 a.values]
attribute [go_sem] vAtom
end Go.AM

/-! ## CmG -/
namespace Go.AM
open Go Go.Proofs Go.RowKit

end Go.AM

/-! ## CmH -/
namespace Go.AM
open Go Go.Proofs Go.RowKit

def u8v (c : UInt8) : AV := .sc (.int .u8 c.toNat)
attribute [go_sem] u8v vStr vss
theorem u8_low {k c : UInt8} {n : Nat} (h : k.toNat = n) : k ≤ c ↔ (n : Int) ≤ (c.toNat : Int) := UInt8.le_iff_toNat_le.trans (by rw [h]; omega)
theorem u8_high {k c : UInt8} {n : Nat} (h : k.toNat = n) : c ≤ k ↔ (c.toNat : Int) ≤ (n : Int) := UInt8.le_iff_toNat_le.trans (by rw [h]; omega)
theorem letterB_eq (c : UInt8) : letterB c = (decide ((97 : Int) ≤ (c.toNat : Int)) && decide ((c.toNat : Int) ≤ 122)) := by
  unfold letterB
  rw [decide_eq_decide.2 (u8_low (k := 97) (c := c) (n := 97) rfl), decide_eq_decide.2 (u8_high (k := 122) (c := c) (n := 122) rfl)]; rfl
theorem digitB_eq (c : UInt8) : digitB c = (decide ((48 : Int) ≤ (c.toNat : Int)) && decide ((c.toNat : Int) ≤ 57)) := by
  unfold digitB
  rw [decide_eq_decide.2 (u8_low (k := 48) (c := c) (n := 48) rfl), decide_eq_decide.2 (u8_high (k := 57) (c := c) (n := 57) rfl)]; rfl
theorem u8_eq {k c : UInt8} {n : Nat} (h : k.toNat = n) : (c == k) = (((c.toNat : Int)) == (n : Int)) := by
  rw [Bool.eq_iff_iff, beq_iff_eq, beq_iff_eq, ← UInt8.toNat_inj, h]; omega

set_option maxRecDepth 100000 in
theorem con_letter (c : UInt8) : Con Tryz.prog 162 [u8v c] [] fun r _ => r = vb (letterB c) := by
  refine Con.intro Tryz.func162 rfl Tryz.ntmps162 Tryz.results162 (by kernel_rfl) (by simp) 0 (by simp) ?_
  rw [letterB_eq]
  by_cases h1 : (97 : Int) ≤ (c.toNat : Int)
  · by_cases h2 : (c.toNat : Int) ≤ 122
    · simp only [go_sem, h1, h2, Bool.and_true]
    · simp only [go_sem, h1, h2, Bool.and_false]
  · simp only [go_sem, h1, Bool.false_and]
set_option maxRecDepth 100000 in
theorem con_digit (c : UInt8) : Con Tryz.prog 189 [u8v c] [] fun r _ => r = vb (digitB c) := by
  refine Con.intro Tryz.func189 rfl Tryz.ntmps189 Tryz.results189 (by kernel_rfl) (by simp) 0 (by simp) ?_
  rw [digitB_eq]
  by_cases h1 : (48 : Int) ≤ (c.toNat : Int)
  · by_cases h2 : (c.toNat : Int) ≤ 57
    · simp only [go_sem, h1, h2, Bool.and_true]
    · simp only [go_sem, h1, h2, Bool.and_false]
  · simp only [go_sem, h1, Bool.false_and]
set_option maxRecDepth 100000 in
theorem con_part (c : UInt8) : Con Tryz.prog 164 [u8v c] [] fun r _ => r = vb (partB c) := by
  refine Con.intro Tryz.func164 rfl Tryz.ntmps164 Tryz.results164 (by kernel_rfl) (by simp) 0 (by simp) ?_
  unfold partB
  rw [u8_eq (k := 95) (c := c) (n := 95) rfl]
  simp only [go_sem]
  refine CallU.free (con_letter c) (by simp only [go_sem]) (by simp only [go_sem]) ?_
  rintro r bx rfl
  cases h1 : letterB c
  · simp only [go_sem]
    refine CallU.free (con_digit c) (by simp only [go_sem]) (by simp only [go_sem]) ?_
    rintro r bx rfl
    cases h2 : digitB c
    · simp only [go_sem]
      all_goals simp
    · simp only [go_sem]
      all_goals simp
  · simp only [go_sem]
    all_goals simp

/-- how many bytes at the beginning p holds of -/
def runL (p : UInt8 → Bool) (l : List UInt8) : Nat := (l.takeWhile p).length
theorem run_stop {p : UInt8 → Bool} : ∀ {l : List UInt8} {i : Nat}, (∀ j, j < i → p l[j]! = true) → i ≤ l.length → (i < l.length → p l[i]! = false) → runL p l = i
  | [], i, _, h2, _ => by simp at h2; subst h2; rfl
  | x :: l, 0, _, _, h3 => by
    have := h3 (by simp)
    simp at this
    simp [runL, this]
  | x :: l, i + 1, h1, h2, h3 => by
    have hx := h1 0 (by omega)
    simp at hx
    have := run_stop (p := p) (l := l) (i := i) (fun j hj => by simpa using h1 (j + 1) (by omega)) (by simpa using h2) (fun h => by simpa using h3 (by simpa using h))
    unfold runL at *
    rw [List.takeWhile_cons, hx, if_pos rfl, List.length_cons, this]
theorem run_all {p : UInt8 → Bool} {l : List UInt8} : (runL p l == l.length) = l.all p := by
  unfold runL
  induction l with
  | nil => rfl
  | cons x l ih =>
    cases h : p x
    · simp [h]
    · simp only [List.takeWhile_cons, h, if_true, List.length_cons, List.all_cons, Bool.true_and]
      rw [← ih]
      rw [Bool.eq_iff_iff]; simp
theorem ba_get {s : ByteArray} {i : Nat} (h : i < s.size) : s[i]? = some s.data.toList[i]! := by
  rw [getElem?_pos s i h]
  congr 1
  have h2 : i < s.data.toList.length := by simpa using h
  rw [getElem!_pos s.data.toList i h2, Array.getElem_toList]; rfl
theorem ba_len (s : ByteArray) : s.data.toList.length = s.size := Array.length_toList
set_option maxRecDepth 100000 in
theorem con_run (s : ByteArray) (f : FuncId) (p : UInt8 → Bool) (hf : ∀ c, Con Tryz.prog f [u8v c] [] fun r _ => r = vb (p c)) (hs : s.size ≤ 9223372036854775806) : Con Tryz.prog 163 [vStr s, .fn f []] [] fun r _ => r = vi (runL p s.data.toList) := by
  refine Con.intro Tryz.func163 rfl Tryz.ntmps163 Tryz.results163 (by kernel_rfl) (by simp) 0 (by simp) ?_
  simp only [go_sem]
  refine LoopK.intro (fun i : Nat => ⟨20, [(0, vStr s), (1, .fn f []), (4, vi 0), (5, vi i)], []⟩)
    (fun i => s.size - i) (fun i => i ≤ s.size ∧ ∀ j, j < i → p s.data.toList[j]! = true) 0 ⟨by omega, fun j hj => by omega⟩ ?_ ?_
  · simp only [go_sem]
    all_goals exact leV_refl _
  rintro i ⟨hi, hb⟩
  by_cases h : i < s.size
  · have hg := ba_get h
    have hw : IntKind.i64.wrap (i + 1) = i + 1 := wrap_in (by omega) (by omega)
    simp only [go_sem, h, hg]
    refine CallU.free (hf s.data.toList[i]!) (by simp only [go_sem]) (by simp only [go_sem]) ?_
    rintro r bx rfl
    cases hp : p s.data.toList[i]!
    · simp only [go_sem]
      rw [run_stop hb (by rw [ba_len]; exact hi) (fun _ => hp)]
    · simp only [go_sem, hw]
      refine roundK.intro (i + 1) ⟨by omega, fun j hj => ?_⟩ (by omega) ?_
      · by_cases hji : j = i
        · subst hji; exact hp
        · exact hb j (by omega)
      · simp only [go_sem]
  · simp only [go_sem, h]
    rw [run_stop hb (by rw [ba_len]; exact hi) (fun h' => absurd (by rw [ba_len] at h'; exact h') h)]
theorem size_zero {s : ByteArray} : (s.toList == ByteArray.toList { data := #[] }) = decide (s.size = 0) := by
  rw [ByteArray.toList_eq, ByteArray.toList_eq, ← ba_len]
  cases h : s.data.toList <;> simp
set_option maxRecDepth 100000 in
theorem con_word (s : ByteArray) (hs : s.size ≤ 9223372036854775806) : Con Tryz.prog 115 [vStr s] [] fun r _ => r = vb (wordB s) := by
  refine Con.intro Tryz.func115 rfl Tryz.ntmps115 Tryz.results115 (by kernel_rfl) (by simp) 0 (by simp) ?_
  have e : wordB s = (decide (0 < s.size) && decide (s.size ≤ 12) && letterB s.data.toList[0]! && (runL partB s.data.toList == s.data.toList.length)) := by
    rw [run_all]
    unfold wordB
    rw [ByteArray.toList_eq]
    by_cases h0 : 0 < s.size
    · have h2 := ba_get h0
      congr 2
      rw [show s.get! 0 = s.data.toList[0]! from ?_]
      have h3 : 0 < s.data.toList.length := by rw [ba_len]; exact h0
      rw [getElem!_pos s.data.toList 0 h3, Array.getElem_toList]
      show s.data[0]! = _
      rw [getElem!_pos s.data 0 h0]
    · rw [decide_eq_false h0]; simp
  rw [e]
  by_cases h0 : 0 < s.size
  · have h0' : ¬ s.size = 0 := by omega
    have hg := ba_get h0
    by_cases h1 : (s.size : Int) ≤ 12
    · have h1' : s.size ≤ 12 := by omega
      simp only [go_sem, size_zero, h0', h1]
      simp only [go_sem, hg]
      refine CallU.free (con_letter s.data.toList[0]!) (by simp only [go_sem]) (by simp only [go_sem]) ?_
      rintro r bx rfl
      cases h2 : letterB s.data.toList[0]!
      · simp only [go_sem]
        all_goals simp
      · simp only [go_sem]
        refine CallU.free (con_run s 164 partB con_part hs) (by simp only [go_sem]) (by simp only [go_sem]) ?_
        rintro r bx rfl
        simp only [go_sem, ba_len, h0, h1', decide_true, Bool.true_and]
        all_goals congr 2
    · have h1' : ¬ s.size ≤ 12 := by omega
      simp only [go_sem, size_zero, h0', h1, h1']
      all_goals simp
  · have h0' : s.size = 0 := by omega
    simp only [go_sem, size_zero, h0']
    all_goals simp
end Go.AM

/-! ## CmI -/
namespace Go.AM
open Go Go.Proofs Go.RowKit

theorem mem_bangI {α : Type} [Inhabited α] {l : List α} {i : Nat} (h : i < l.length) : l[i]! ∈ l := by rw [getElem!_pos l i h]; exact List.getElem_mem h

/-- a function value that tells by p, one call at a time -/
def TellsI (f : FuncId) (caps : List AV) (l : List Int) (p : Int → Bool) : Prop := ∀ x ∈ l, Con Tryz.prog f ([vi x] ++ caps) [] fun r _ => r = .sc (.bool (p x))
set_option maxRecDepth 100000 in
theorem con_indexInt (l : List Int) (f : FuncId) (caps : List AV) (p : Int → Bool) (hc : mapTops (viewV []) caps = caps) (hf : TellsI f caps l p) (hl : l.length ≤ 9223372036854775806) : Con Tryz.prog 151 [vs 0 l, .fn f caps] [] fun r _ => r = vi (findI p l) := by
  refine Con.intro Tryz.func151 rfl Tryz.ntmps151 Tryz.results151 (by kernel_rfl) (by simp) 0 (by simp) ?_
  simp only [go_sem]
  refine LoopK.intro (fun i : Nat => ⟨19, [(0, vs 0 l), (1, .fn f caps), (7, vi l.length), (8, vi i)], []⟩)
    (fun i => l.length - i) (fun i => i ≤ l.length ∧ ∀ j, j < i → p l[j]! = false) 0 ⟨by omega, fun j hj => by omega⟩ ?_ ?_
  · simp only [go_sem]
    all_goals exact leV_refl _
  · rintro i ⟨hi, hb⟩
    by_cases h : i < l.length
    · have hg := getv h
      have hw : IntKind.i64.wrap (i + 1) = i + 1 := wrap_in (by omega) (by omega)
      simp only [go_sem, h, hg]
      refine CallU.look (hf l[i]! (mem_bangI h)) (by simp only [go_sem]) (by simp only [go_sem, hc]) ?_
      rintro r bx rfl
      cases hp : p l[i]!
      · simp only [go_sem, hw]
        refine roundK.intro (i + 1) ⟨by omega, fun j hj => ?_⟩ (by omega) ?_
        · by_cases hji : j = i
          · subst hji; exact hp
          · exact hb j (by omega)
        · simp only [go_sem]
      · simp only [go_sem]
        rw [findI_stop h hb hp]
    · simp only [go_sem, h]
      rw [findI_none (fun j hj => hb j (by omega))]
set_option maxRecDepth 100000 in
theorem con_containsInt (l : List Int) (f : FuncId) (caps : List AV) (p : Int → Bool) (hc : mapTops (viewV []) caps = caps) (hf : TellsI f caps l p) (hl : l.length ≤ 9223372036854775806) : Con Tryz.prog 104 [vs 0 l, .fn f caps] [] fun r _ => r = .sc (.bool (l.any p)) := by
  refine Con.intro Tryz.func104 rfl Tryz.ntmps104 Tryz.results104 (by kernel_rfl) (by simp) 0 (by simp) ?_
  simp only [go_sem]
  refine CallU.look (con_indexInt l f caps p hc hf hl) (by simp only [go_sem]) (by simp only [go_sem]) ?_
  rintro r bx rfl
  simp only [go_sem, findI_ge]

/-- rules -/
def TellsR (f : FuncId) (caps : List AV) (l : List RD) (p : RD → Bool) : Prop := ∀ x ∈ l, Con Tryz.prog f ([vRule x] ++ caps) [] fun r _ => r = .sc (.bool (p x))
attribute [go_sem] vRule
set_option maxRecDepth 100000 in
theorem con_indexRule (l : List RD) (f : FuncId) (caps : List AV) (p : RD → Bool) (hc : mapTops (viewV []) caps = caps) (hf : TellsR f caps l p) (hl : l.length ≤ 9223372036854775806) : Con Tryz.prog 117 [.sl 0 14 (l.map vRule), .fn f caps] [] fun r _ => r = vi (findI p l) := by
  refine Con.intro Tryz.func117 rfl Tryz.ntmps117 Tryz.results117 (by kernel_rfl) (by simp) 0 (by simp) ?_
  simp only [go_sem]
  refine LoopK.intro (fun i : Nat => ⟨19, [(0, .sl 0 14 (l.map vRule)), (1, .fn f caps), (7, vi l.length), (8, vi i)], []⟩)
    (fun i => l.length - i) (fun i => i ≤ l.length ∧ ∀ j, j < i → p l[j]! = false) 0 ⟨by omega, fun j hj => by omega⟩ ?_ ?_
  · simp only [go_sem]
    all_goals exact leV_refl _
  · rintro i ⟨hi, hb⟩
    by_cases h : i < l.length
    · have hg := getRule h
      have hw : IntKind.i64.wrap (i + 1) = i + 1 := wrap_in (by omega) (by omega)
      simp only [go_sem, h, hg]
      refine CallU.look (hf l[i]! (mem_bangI h)) (by simp only [go_sem]) (by simp only [go_sem, hc]) ?_
      rintro r bx rfl
      cases hp : p l[i]!
      · simp only [go_sem, hw]
        refine roundK.intro (i + 1) ⟨by omega, fun j hj => ?_⟩ (by omega) ?_
        · by_cases hji : j = i
          · subst hji; exact hp
          · exact hb j (by omega)
        · simp only [go_sem]
      · simp only [go_sem]
        rw [findI_stop h hb hp]
    · simp only [go_sem, h]
      rw [findI_none (fun j hj => hb j (by omega))]
set_option maxRecDepth 100000 in
theorem con_containsRule (l : List RD) (f : FuncId) (caps : List AV) (p : RD → Bool) (hc : mapTops (viewV []) caps = caps) (hf : TellsR f caps l p) (hl : l.length ≤ 9223372036854775806) : Con Tryz.prog 68 [.sl 0 14 (l.map vRule), .fn f caps] [] fun r _ => r = .sc (.bool (l.any p)) := by
  refine Con.intro Tryz.func68 rfl Tryz.ntmps68 Tryz.results68 (by kernel_rfl) (by simp) 0 (by simp) ?_
  simp only [go_sem]
  refine CallU.look (con_indexRule l f caps p hc hf hl) (by simp only [go_sem]) (by simp only [go_sem]) ?_
  rintro r bx rfl
  simp only [go_sem, findI_ge]

set_option maxRecDepth 100000 in
theorem con_all1 (x : Int) (g : FuncId) (caps : List AV) (p : Int → Bool) (hc : mapTops (viewV []) caps = caps) (hf : Con Tryz.prog g ([vi x] ++ caps) [] fun r _ => r = .sc (.bool (p x))) : Con Tryz.prog 173 [vi x, .fp [.fn g caps] 0] [] fun r _ => r = .sc (.bool (!p x)) := by
  refine Con.intro Tryz.func173 rfl Tryz.ntmps173 Tryz.results173 (by kernel_rfl) (by simp) 0 (by simp) ?_
  simp only [go_sem]
  refine CallU.look hf (by simp only [go_sem]) (by simp only [go_sem, hc]) ?_
  rintro r bx rfl
  simp only [go_sem]
theorem any_not {α : Type} (p : α → Bool) : ∀ l : List α, (!l.any fun x => !p x) = l.all p
  | [] => rfl
  | x :: l => by rw [List.any_cons, List.all_cons, ← any_not p l]; cases p x <;> simp
set_option maxRecDepth 100000 in
theorem con_all (l : List Int) (g : FuncId) (caps : List AV) (p : Int → Bool) (hc : mapTops (viewV []) caps = caps) (hf : TellsI g caps l p) (hl : l.length ≤ 9223372036854775806) : Con Tryz.prog 124 [vs 0 l, .fn g caps] [] fun r _ => r = .sc (.bool (l.all p)) := by
  refine Con.intro Tryz.func124 rfl Tryz.ntmps124 Tryz.results124 (by kernel_rfl) (by simp) 1 (by simp) ?_
  simp only [go_sem]
  refine CallU.look (con_containsInt l 173 [.fp [.fn g caps] 0] (fun x => !p x) (by simp only [go_sem]) (fun x hx => con_all1 x g caps p hc (hf x hx)) hl) (by simp only [go_sem]) (by simp only [go_sem]) ?_
  rintro r bx rfl
  simp only [go_sem, any_not]

theorem beq_cut {a b : List Int} (h : a.length ≠ b.length) : (a == b) = false := by
  rw [beq_eq_false_iff_ne]; intro e; rw [e] at h; exact h rfl
theorem eqI_stop {a b : List Int} {i : Nat} (h : a[i]! ≠ b[i]!) : (a == b) = false := by
  rw [beq_eq_false_iff_ne]; intro e; rw [e] at h; exact h rfl
theorem eqI_all {a b : List Int} (hl : a.length = b.length) (h : ∀ j, j < a.length → a[j]! = b[j]!) : (a == b) = true := by
  rw [beq_iff_eq]
  apply List.ext_getElem hl
  intro i h1 h2
  have := h i h1
  rw [getElem!_pos a i h1, getElem!_pos b i h2] at this; exact this
set_option maxRecDepth 100000 in
theorem con_equalInt (a b : List Int) (hl : a.length ≤ 9223372036854775806) : Con Tryz.prog 79 [vs 0 a, vs 0 b] [] fun r _ => r = .sc (.bool (a == b)) := by
  refine Con.intro Tryz.func79 rfl Tryz.ntmps79 Tryz.results79 (by kernel_rfl) (by simp) 0 (by simp) ?_
  by_cases he : a.length = b.length
  case neg =>
    have he' : ((a.length : Int) != (b.length : Int)) = true := bne_iff_ne.2 (by omega)
    simp only [go_sem, he', beq_cut he]
  simp only [go_sem, he]
  refine LoopK.intro (fun i : Nat => ⟨26, [(0, vs 0 a), (1, vs 0 b), (12, vi a.length), (13, vi i)], []⟩)
    (fun i => a.length - i) (fun i => i ≤ a.length ∧ ∀ j, j < i → a[j]! = b[j]!) 0 ⟨by omega, fun j hj => by omega⟩ ?_ ?_
  · simp only [go_sem, he]
    all_goals exact leV_refl _
  rintro i ⟨hi, hb⟩
  by_cases h : i < a.length
  · have h2 : i < b.length := by omega
    have g1 := getv h
    have g2 := getv h2
    have hw : IntKind.i64.wrap (i + 1) = i + 1 := wrap_in (by omega) (by omega)
    simp only [go_sem, h]
    refine DrawK.walk 9 mixed (by kernel_rfl) ?_
    by_cases hp : a[i]! = b[i]!
    · simp only [go_sem, h, h2, g1, g2, hp, hw]
      refine roundK.intro (i + 1) ⟨by omega, fun j hj => ?_⟩ (by omega) ?_
      · by_cases hji : j = i
        · subst hji; exact hp
        · exact hb j (by omega)
      · simp only [go_sem]
    · have hp' : (a[i]! != b[i]!) = true := bne_iff_ne.2 hp
      simp only [go_sem, h, h2, g1, g2, hp']
      rw [eqI_stop hp]
  · simp only [go_sem, h]
    rw [eqI_all he (fun j hj => hb j (by omega))]
end Go.AM

/-! ## CmJ -/
namespace Go.AM
open Go Go.Proofs Go.RowKit

set_option maxRecDepth 100000 in
theorem con_indexStr (l : List ByteArray) (v : ByteArray) (hl : l.length ≤ 9223372036854775806) : Con Tryz.prog 190 [vss l, vStr v] [] fun r _ => r = vi (findI (fun x => v.toList == x.toList) l) := by
  refine Con.intro Tryz.func190 rfl Tryz.ntmps190 Tryz.results190 (by kernel_rfl) (by simp) 0 (by simp) ?_
  simp only [go_sem]
  refine LoopK.intro (fun i : Nat => ⟨19, [(0, vss l), (1, vStr v), (7, vi l.length), (8, vi i)], []⟩)
    (fun i => l.length - i) (fun i => i ≤ l.length ∧ ∀ j, j < i → (v.toList == l[j]!.toList) = false) 0 ⟨by omega, fun j hj => by omega⟩ ?_ ?_
  · simp only [go_sem]
    all_goals exact leV_refl _
  · rintro i ⟨hi, hb⟩
    by_cases h : i < l.length
    · have hg := getStr h
      have hw : IntKind.i64.wrap (i + 1) = i + 1 := wrap_in (by omega) (by omega)
      cases hp : (v.toList == l[i]!.toList)
      · simp only [go_sem, h, hg, hp, hw]
        refine roundK.intro (i + 1) ⟨by omega, fun j hj => ?_⟩ (by omega) ?_
        · by_cases hji : j = i
          · subst hji; exact hp
          · exact hb j (by omega)
        · simp only [go_sem]
      · simp only [go_sem, h, hg, hp]
        rw [findI_stop (p := fun x : ByteArray => v.toList == x.toList) h hb hp]
    · simp only [go_sem, h]
      rw [findI_none (p := fun x : ByteArray => v.toList == x.toList) (fun j hj => hb j (by omega))]
set_option maxRecDepth 100000 in
theorem con_containsStr (l : List ByteArray) (v : ByteArray) (hl : l.length ≤ 9223372036854775806) : Con Tryz.prog 165 [vss l, vStr v] [] fun r _ => r = .sc (.bool (l.any fun x => v.toList == x.toList)) := by
  refine Con.intro Tryz.func165 rfl Tryz.ntmps165 Tryz.results165 (by kernel_rfl) (by simp) 0 (by simp) ?_
  simp only [go_sem]
  refine CallU.free (con_indexStr l v hl) (by simp only [go_sem]) (by simp only [go_sem]) ?_
  rintro r bx rfl
  simp only [go_sem, findI_ge]
set_option maxRecDepth 100000 in
theorem con_keyword (s : ByteArray) : Con Tryz.prog 116 [vStr s] [] fun r _ => r = vb (keywordB s) := by
  refine Con.intro Tryz.func116 rfl Tryz.ntmps116 Tryz.results116 (by kernel_rfl) (by simp) 0 (by simp) ?_
  simp only [go_sem]
  refine CallU.flat (con_containsStr kwL s (by decide)) (by simp only [go_sem]) (by simp only [go_sem, kwL, List.map_cons, List.map_nil]) ?_
  rintro r bx rfl
  simp only [go_sem]
  rfl

/-! ### lists, one after the other -/
/-- how long the first i lists are, together -/
def sumL {α : Type} (ls : List (List α)) (i : Nat) : Nat := ((ls.take i).map List.length).sum
theorem sumL_zero {α : Type} (ls : List (List α)) : sumL ls 0 = 0 := rfl
theorem sumL_succ {α : Type} {ls : List (List α)} {i : Nat} (h : i < ls.length) : sumL ls (i + 1) = sumL ls i + ls[i]!.length := by
  unfold sumL
  rw [List.take_add_one, List.getElem?_eq_getElem h, getElem!_pos ls i h, List.map_append, List.sum_append]
  simp only [Option.toList, List.map_cons, List.map_nil, List.sum_cons, List.sum_nil, Nat.add_zero]
theorem sumL_mono {α : Type} {ls : List (List α)} : ∀ {i : Nat}, sumL ls i ≤ ls.flatten.length := by
  intro i
  unfold sumL
  rw [← List.length_flatten]
  have h : ls.flatten = (ls.take i).flatten ++ (ls.drop i).flatten := by rw [← List.flatten_append, List.take_append_drop]
  rw [h, List.length_append]; omega
theorem flat_succ {α : Type} {ls : List (List α)} {i : Nat} (h : i < ls.length) : (ls.take (i + 1)).flatten = (ls.take i).flatten ++ ls[i]! := by
  rw [List.take_add_one, List.getElem?_eq_getElem h, getElem!_pos ls i h, List.flatten_append]
  simp only [Option.toList, List.flatten_cons, List.flatten_nil, List.append_nil]
theorem getRow {ls : List (List ByteArray)} {i : Nat} (h : i < ls.length) : (ls.map vss)[i]? = some (.sl 0 1 (ls[i]!.map vStr)) := by
  rw [List.getElem?_map, List.getElem?_eq_getElem h, getElem!_pos ls i h, Option.map_some]; rfl
set_option maxRecDepth 100000 in
theorem con_growStr (n : Nat) (h1 : 1 ≤ n) (h2 : n ≤ 1000000) : Con Tryz.prog 161 [.nil, vi n] [] fun r _ => r = .sl 2 1 [] := by
  refine Con.intro Tryz.func161 rfl Tryz.ntmps161 Tryz.results161 (by kernel_rfl) (by simp) 0 (by simp) ?_
  have a1 : ¬ ((n : Int) < 0) := by omega
  have a2 : (0 : Int) < (n : Int) := by omega
  have hw : IntKind.i64.wrap ((n : Int) - 0) = n := by rw [wrap_in (by omega) (by omega)]; omega
  have hz : IntKind.i64.wrap 0 = 0 := wrap_in (by omega) (by omega)
  simp only [go_sem, a1, a2, hz, hw]
  omega
set_option maxRecDepth 100000 in
theorem con_concatStr (ls : List (List ByteArray)) (h1 : 1 ≤ ls.flatten.length) (h2 : ls.flatten.length ≤ 1000000) (hl : ls.length ≤ 1000000) : Con Tryz.prog 114 [.sl 0 1 (ls.map vss)] [] fun r _ => r = .sl 2 1 (ls.flatten.map vStr) := by
  refine Con.intro Tryz.func114 rfl Tryz.ntmps114 Tryz.results114 (by kernel_rfl) (by simp) 0 (by simp) ?_
  simp only [go_sem]
  refine LoopK.intro (fun i : Nat => ⟨36, [(0, .sl 0 1 (ls.map vss)), (2, .nil), (3, vi (sumL ls i)), (9, .sl 0 1 (ls.map vss)), (10, vi ls.length), (11, vi i)], []⟩)
    (fun i => ls.length - i) (fun i => i ≤ ls.length) 0 (by omega) ?_ ?_
  · simp only [go_sem, sumL_zero]
    all_goals exact leV_refl _
  rintro i hi
  have hm := sumL_mono (ls := ls) (i := i)
  by_cases h : i < ls.length
  · have hg := getRow h
    have hw : IntKind.i64.wrap (i + 1) = i + 1 := wrap_in (by omega) (by omega)
    have hm2 := sumL_mono (ls := ls) (i := i + 1)
    have hs := sumL_succ h
    have hw2 : IntKind.i64.wrap ((sumL ls i : Int) + (ls[i]!.length : Int)) = (sumL ls (i + 1) : Int) := by rw [wrap_in (by omega) (by omega)]; omega
    have a1 : ¬ ((sumL ls (i + 1) : Int) < 0) := by omega
    simp only [go_sem, h, hg, hw, hw2, a1]
    refine roundK.intro (i + 1) (by omega) (by omega) ?_
    simp only [go_sem]
  · obtain rfl : i = ls.length := by omega
    have e : sumL ls ls.length = ls.flatten.length := by unfold sumL; rw [List.take_length, ← List.length_flatten]
    simp only [go_sem, h, e]
    refine CallU.free (con_growStr ls.flatten.length h1 h2) (by simp only [go_sem]) (by simp only [go_sem]) ?_
    rintro r bx rfl
    simp only [go_sem]
    refine LoopK.intro (fun i : Nat => ⟨36, [(0, .sl 0 1 (ls.map vss)), (2, .nil), (6, .sl 1602 1 (((ls.take i).flatten).map vStr)), (25, .sl 0 1 (ls.map vss)), (26, vi ls.length), (27, vi i)], []⟩)
      (fun i => ls.length - i) (fun i => i ≤ ls.length) 0 (by omega) ?_ ?_
    · simp only [go_sem, List.take_zero, List.flatten_nil, List.map_nil]
      all_goals exact leV_refl _
    rintro i hi
    by_cases h : i < ls.length
    · have hg := getRow h
      have hw : IntKind.i64.wrap (i + 1) = i + 1 := wrap_in (by omega) (by omega)
      have hm2 := sumL_mono (ls := ls) (i := i + 1)
      have hs := sumL_succ h
      have hf := flat_succ h
      have el : (ls.take i).flatten.length = sumL ls i := by unfold sumL; rw [List.length_flatten]
      simp only [go_sem, h, hg, hw]
      refine ⟨by simp only [roomFor, el]; omega, ?_⟩
      refine roundK.intro (i + 1) (by omega) (by omega) ?_
      simp only [go_sem, hf, List.map_append]
    · obtain rfl : i = ls.length := by omega
      simp only [go_sem, h, List.take_length]
end Go.AM

/-! ## CmK -/
namespace Go.AM
open Go Go.Proofs Go.RowKit

attribute [go_sem] vM cM
theorem leC_any : ∀ (l : List AV) (n : Nat), l.length = n → leC l (List.replicate n .any)
  | [], _, h => by subst h; exact trivial
  | x :: l, _, h => by subst h; exact ⟨leV_any x, leC_any l l.length rfl⟩
theorem take_map_succ {α β : Type} [Inhabited α] {l : List α} {i : Nat} (f : α → β) (h : i < l.length) : (l.take (i + 1)).map f = (l.take i).map f ++ [f l[i]!] := by
  rw [List.take_add_one, List.getElem?_eq_getElem h, getElem!_pos l i h, List.map_append]; rfl
theorem metD_le : ∀ (n : Nat) (ks : List (List UInt8)), ks.length = n → mapLen (metD ks) ≤ n := by
  intro n
  induction n with
  | zero => intro ks h; obtain rfl := List.eq_nil_of_length_eq_zero h; exact Nat.le_refl _
  | succ n ih =>
    intro ks h
    obtain ⟨ks', x, rfl⟩ : ∃ ks' x, ks = ks' ++ [x] := ⟨ks.dropLast, ks.getLast (by intro e; rw [e] at h; simp at h), (List.dropLast_concat_getLast _).symm⟩
    have ih' := ih ks' (by simpa using h)
    have e : ∀ D : DataW Unit, mapLen D = Go.Maps.size D := fun D => by cases D <;> rfl
    rw [← metD_snoc, e, Go.Maps.size_put (metD_tidy _), ← e]
    split <;> omega
def dataL (s : ByteArray) : List UInt8 := s.data.toList
theorem names_bad {l : List ByteArray} {i : Nat} (h : i < l.length) (hb : okN l i = false) : namesB l = false := by
  unfold namesB
  rw [List.all_eq_false]
  exact ⟨i, List.mem_range.2 h, by rw [hb]; simp⟩
theorem names_ok {l : List ByteArray} (h : ∀ i, i < l.length → okN l i = true) : namesB l = true := by
  unfold namesB
  rw [List.all_eq_true]
  exact fun i hi => h i (List.mem_range.1 hi)
theorem ba_self (s : ByteArray) : s.data.toList = dataL s := rfl
/-- the names of the first rules -/
def namesTo (m : MD) (i : Nat) : List ByteArray := m.states ++ m.places ++ m.letters ++ (m.rules.take i).map RD.name
theorem namesTo_zero (m : MD) : namesTo m 0 = m.states ++ m.places ++ m.letters := by simp [namesTo]
theorem namesTo_succ {m : MD} {i : Nat} (h : i < m.rules.length) : namesTo m (i + 1) = namesTo m i ++ [m.rules[i]!.name] := by
  unfold namesTo
  rw [List.take_add_one, List.getElem?_eq_getElem h, getElem!_pos m.rules i h, List.map_append]
  simp only [Option.toList, List.map_cons, List.map_nil, List.append_assoc]
theorem namesTo_all (m : MD) : namesTo m m.rules.length = namesOf m := by unfold namesTo namesOf; rw [List.take_length]
theorem namesTo_len {m : MD} {i : Nat} : (namesTo m i).length ≤ (namesOf m).length := by
  unfold namesTo namesOf
  simp only [List.length_append, List.length_map, List.length_take]; omega
set_option maxRecDepth 100000 in
theorem con_named (m : MD) (h1 : 1 ≤ m.states.length) (h2 : (namesOf m).length ≤ 1000000) (hs : ∀ s ∈ namesOf m, s.size ≤ 9223372036854775806) : Con Tryz.prog 67 [vM m] [] fun r _ => r = vb (namesB (namesOf m)) := by
  refine Con.intro Tryz.func67 rfl Tryz.ntmps67 Tryz.results67 (by kernel_rfl) (by simp) 1 (by simp) ?_
  have h2' := h2
  unfold namesOf at h2'
  simp only [List.length_append, List.length_map] at h2'
  simp only [go_sem]
  refine CallU.freeze (con_concatStr [m.states, m.places, m.letters] (by simp; omega) (by simp; omega) (by simp)) (by simp only [go_sem]) (by simp only [go_sem, List.map_cons, List.map_nil]) ?_
  rintro r bx rfl
  have e0 : [m.states, m.places, m.letters].flatten = namesTo m 0 := by rw [namesTo_zero]; simp
  rw [e0]
  simp only [go_sem]
  refine LoopK.intro (fun i : Nat => ⟨52, [(1, .pb 0 0), (2, vb false), (3, .mp 640 Tryz.prog 9 4 (metD [])), (4, .sl 1154 1 ((namesTo m i).map vStr)), (19, .sl 0 14 (m.rules.map vRule)), (20, vi m.rules.length), (21, vi i)], cM m :: Rk 14 i⟩)
    (fun i => m.rules.length - i) (fun i => i ≤ m.rules.length) 0 (by omega) ?_ ?_
  · simp only [go_sem]
    all_goals exact ⟨leV_refl _, leB_self _⟩
  rintro i hi
  have hn := namesTo_len (m := m) (i := i)
  by_cases h : i < m.rules.length
  · have hg := getRule h
    have hw : IntKind.i64.wrap (i + 1) = i + 1 := wrap_in (by omega) (by omega)
    have hB := Rk_len 14 i
    have n0 := fun L : List (List AV) => app_at0 (L := L) hB
    have s0 := fun (L : List (List AV)) z => app_set0 (L := L) (z := z) hB
    have e := namesTo_succ h
    simp only [go_sem, h, hg, hw, hB, n0, s0]
    refine ⟨by simp only [roomFor]; omega, ?_⟩
    refine roundK.intro (i + 1) (by omega) (by omega) ?_
    simp only [go_sem, Rk_succ, e, List.map_append, List.map_cons, List.map_nil]
    exact leB_RkA ⟨leC_any _ 14 rfl, trivial⟩
  obtain rfl : i = m.rules.length := by omega
  rw [namesTo_all]
  simp only [go_sem, h]
  generalize hL : namesOf m = l at *
  refine LoopK.intro (fun i : Nat => ⟨52, [(1, .pb 0 0), (2, vb false), (3, .mp 640 Tryz.prog 9 4 (metD ((l.take i).map fun s => s.data.toList))), (31, .sl 1154 1 (l.map vStr)), (32, vi l.length), (33, vi i)], cM m :: Rk 14 m.rules.length⟩)
    (fun i => l.length - i) (fun i => i ≤ l.length ∧ ∀ j, j < i → okN l j = true) 0 ⟨by omega, fun j hj => by omega⟩ ?_ ?_
  · simp only [go_sem, List.take_zero, List.map_nil]
    all_goals exact leV_refl _
  rintro i ⟨hi, hb⟩
  by_cases h : i < l.length
  · have hg := getStr h
    have hw : IntKind.i64.wrap (i + 1) = i + 1 := wrap_in (by omega) (by omega)
    have hz := hs l[i]! (mem_bangI h)
    simp only [go_sem, h, hg]
    refine CallU.free (con_word l[i]! hz) (by simp only [go_sem]) (by simp only [go_sem]) ?_
    rintro r bx rfl
    cases a1 : wordB l[i]!
    · simp only [go_sem]
      rw [names_bad h (by unfold okN; rw [a1]; rfl)]
    simp only [go_sem]
    refine CallU.free (con_keyword l[i]!) (by simp only [go_sem]) (by simp only [go_sem]) ?_
    rintro r bx rfl
    cases a2 : keywordB l[i]!
    case true =>
      simp only [go_sem]
      rw [names_bad h (by unfold okN; rw [a1, a2]; rfl)]
    simp only [go_sem]
    refine evLookup_str (k := 9) (e := 4) (by kernel_rfl) Tryz.underlying9 Tryz.underlying4 tinfo_4 rfl (by omega) ?_
    rw [metD_at]
    cases a3 : ((l.take i).map fun s => s.data.toList).contains l[i]!.data.toList
    case true =>
      simp only [go_sem]
      rw [names_bad h (by unfold okN; rw [a1, a2, a3]; rfl)]
    simp only [go_sem]
    have hlen := metD_le i ((l.take i).map fun s => s.data.toList) (by rw [List.length_map, List.length_take]; omega)
    refine evMapPut_str (k := 9) (e := 4) (by kernel_rfl) Tryz.underlying9 Tryz.underlying4 (by omega) (by omega) ?_
    rw [metD_snoc]
    simp only [go_sem, hw]
    refine roundK.intro (i + 1) ⟨by omega, fun j hj => ?_⟩ (by omega) ?_
    · by_cases hji : j = i
      · subst hji; unfold okN; rw [a1, a2, a3]; rfl
      · exact hb j (by omega)
    · simp only [go_sem, take_map_succ (fun s : ByteArray => s.data.toList) h]
      all_goals exact leV_refl _
  · simp only [go_sem, h]
    rw [names_ok (fun j hj => hb j (by omega))]
end Go.AM

/-! ## CmL -/
namespace Go.AM
open Go Go.Proofs Go.RowKit

/-- the limits of a kind: places, letters, levels, age, each from .. to .. -/
def limF (k : Int) : List Int :=
  if k = 1 ∨ k = 6 then [1, 6, 0, 0, 0, 0, 0, 0] else if k = 2 ∨ k = 3 then [1, 2, 1, 6, 0, 0, 0, 0] else if k = 4 then [0, 0, 1, 6, 1, 2, 0, 0] else [1, 6, 0, 0, 0, 0, 0, 3]
abbrev lim (k : Int) (j : Nat) : Int := (limF k).getD j 0
def limV (l : List Int) : AV := .ag [vi (l.getD 0 0), vi (l.getD 1 0), vi (l.getD 2 0), vi (l.getD 3 0), vi (l.getD 4 0), vi (l.getD 5 0), vi (l.getD 6 0), vi (l.getD 7 0)]
set_option maxRecDepth 100000 in
theorem con_of (k : Int) : Con Tryz.prog 112 [vi k] [] fun r _ => r = limV (limF k) := by
  refine Con.intro Tryz.func112 rfl Tryz.ntmps112 Tryz.results112 (by kernel_rfl) (by simp) 0 (by simp) ?_
  by_cases k1 : k = 1
  · subst k1; simp only [go_sem]; rfl
  have b1 : (k == 1) = false := beq_eq_false_iff_ne.2 k1
  by_cases k6 : k = 6
  · subst k6; simp only [go_sem]; rfl
  have b6 : (k == 6) = false := beq_eq_false_iff_ne.2 k6
  by_cases k2 : k = 2
  · subst k2; simp only [go_sem]; rfl
  have b2 : (k == 2) = false := beq_eq_false_iff_ne.2 k2
  by_cases k3 : k = 3
  · subst k3; simp only [go_sem]; rfl
  have b3 : (k == 3) = false := beq_eq_false_iff_ne.2 k3
  by_cases k4 : k = 4
  · subst k4; simp only [go_sem]; rfl
  have b4 : (k == 4) = false := beq_eq_false_iff_ne.2 k4
  have e : limF k = [1, 6, 0, 0, 0, 0, 0, 3] := by unfold limF; rw [if_neg (by omega), if_neg (by omega), if_neg (by omega)]
  rw [e]
  simp only [go_sem, b1, b6, b2, b3, b4]
  rfl
/-- right numbers of everything -/
def sizedB (m : MD) : Bool := betweenB m.states.length 1 8 && decide (m.rules.length ≤ 12) && betweenB m.places.length (lim m.kind 0) (lim m.kind 1) && betweenB m.letters.length (lim m.kind 2) (lim m.kind 3) && betweenB m.levels (lim m.kind 4) (lim m.kind 5) && betweenB m.age (lim m.kind 6) (lim m.kind 7)
set_option maxRecDepth 100000 in
set_option maxHeartbeats 4000000 in
theorem con_sized (m : MD) : Con Tryz.prog 65 [vM m] [] fun r _ => r = vb (sizedB m) := by
  refine Con.intro Tryz.func65 rfl Tryz.ntmps65 Tryz.results65 (by kernel_rfl) (by simp) 2 (by simp) ?_
  simp only [go_sem]
  refine CallU.free (con_of m.kind) (by simp only [go_sem]) (by simp only [go_sem]) ?_
  rintro r bx rfl
  simp only [go_sem, limV]
  refine CallU.free (con_between m.states.length 1 8) (by simp only [go_sem]) (by simp only [go_sem]) ?_
  rintro r bx rfl
  unfold sizedB
  cases h1 : betweenB m.states.length 1 8
  · simp only [go_sem, Bool.false_and]
  by_cases h2 : (m.rules.length : Int) ≤ 12
  case neg =>
    have h2' : ¬ m.rules.length ≤ 12 := by omega
    simp only [go_sem, h2, h2', decide_false, Bool.and_false, Bool.false_and]
  have h2' : m.rules.length ≤ 12 := by omega
  simp only [go_sem, h2, decide_true]
  refine CallU.free (con_between m.places.length (lim m.kind 0) (lim m.kind 1)) (by simp only [go_sem]) (by simp only [go_sem]) ?_
  rintro r bx rfl
  cases h3 : betweenB m.places.length (lim m.kind 0) (lim m.kind 1)
  · simp only [go_sem, Bool.false_and]
  simp only [go_sem]
  refine CallU.free (con_between m.letters.length (lim m.kind 2) (lim m.kind 3)) (by simp only [go_sem]) (by simp only [go_sem]) ?_
  rintro r bx rfl
  cases h4 : betweenB m.letters.length (lim m.kind 2) (lim m.kind 3)
  · simp only [go_sem, Bool.false_and]
  simp only [go_sem]
  refine CallU.free (con_between m.levels (lim m.kind 4) (lim m.kind 5)) (by simp only [go_sem]) (by simp only [go_sem]) ?_
  rintro r bx rfl
  cases h5 : betweenB m.levels (lim m.kind 4) (lim m.kind 5)
  · simp only [go_sem, Bool.false_and]
  simp only [go_sem]
  refine CallU.free (con_between m.age (lim m.kind 6) (lim m.kind 7)) (by simp only [go_sem]) (by simp only [go_sem]) ?_
  rintro r bx rfl
  simp only [go_sem, h2', decide_true, Bool.true_and]

/-- ranks -/
def rankedB (m : MD) : Bool := if m.kind = 3 then decide (m.ranks.length = m.letters.length) && m.ranks.all fun r => betweenB r 0 5 else m.ranks.length == 0
set_option maxRecDepth 100000 in
theorem con_ranked1 (x : Int) : Con Tryz.prog 113 [vi x] [] fun r _ => r = .sc (.bool (!betweenB x 0 5)) := by
  refine Con.intro Tryz.func113 rfl Tryz.ntmps113 Tryz.results113 (by kernel_rfl) (by simp) 0 (by simp) ?_
  simp only [go_sem]
  refine CallU.free (con_between x 0 5) (by simp only [go_sem]) (by simp only [go_sem]) ?_
  rintro r bx rfl
  simp only [go_sem]
set_option maxRecDepth 100000 in
theorem con_ranked (m : MD) (h1 : m.ranks.length ≤ 9223372036854775806) : Con Tryz.prog 66 [vM m] [] fun r _ => r = vb (rankedB m) := by
  refine Con.intro Tryz.func66 rfl Tryz.ntmps66 Tryz.results66 (by kernel_rfl) (by simp) 1 (by simp) ?_
  unfold rankedB
  by_cases k3 : m.kind = 3
  case neg =>
    have b3 : (m.kind != 3) = true := bne_iff_ne.2 k3
    rw [if_neg k3]
    simp only [go_sem, b3]
    congr 2
    rw [Bool.eq_iff_iff]; simp
  rw [if_pos k3]
  have b3 : (m.kind != 3) = false := by rw [k3]; rfl
  by_cases hl : m.ranks.length = m.letters.length
  case neg =>
    have hl' : ((m.ranks.length : Int) == (m.letters.length : Int)) = false := beq_eq_false_iff_ne.2 (by omega)
    simp only [go_sem, b3, hl', hl, decide_false, Bool.false_and]
  have hl' : ((m.ranks.length : Int) == (m.letters.length : Int)) = true := beq_iff_eq.2 (by omega)
  simp only [go_sem, b3, hl']
  refine CallU.free (con_containsInt m.ranks 113 [] (fun r => !betweenB r 0 5) rfl (fun x _ => con_ranked1 x) h1) (by simp only [go_sem]) (by simp only [go_sem]) ?_
  rintro r bx rfl
  simp only [go_sem, any_not, hl, decide_true, Bool.true_and]
end Go.AM

/-! ## CmM -/
namespace Go.AM
open Go Go.Proofs Go.RowKit

set_option maxRecDepth 100000 in
theorem con_changes1 (x : Int) : Con Tryz.prog 166 [vi x] [] fun r _ => r = .sc (.bool (betweenB x 0 16)) := by
  refine Con.intro Tryz.func166 rfl Tryz.ntmps166 Tryz.results166 (by kernel_rfl) (by simp) 0 (by simp) ?_
  simp only [go_sem]
  refine CallU.free (con_between x 0 16) (by simp only [go_sem]) (by simp only [go_sem]) ?_
  rintro r bx rfl
  simp only [go_sem]
/-- the lists are not too long -/
structure RD.Len (r : RD) : Prop where
  need : r.need.length ≤ 9223372036854775806
  give : r.give.length ≤ 9223372036854775806
  move : r.move.length ≤ 9223372036854775806
  path : r.path.length ≤ 9223372036854775806
  next : r.next.length ≤ 9223372036854775806
  takes : r.takes.length ≤ 9223372036854775806
  makes : r.makes.length ≤ 9223372036854775806
set_option maxRecDepth 100000 in
set_option maxHeartbeats 1000000 in
theorem con_changes (m : MD) (r : RD) (hl : r.Len) : Con Tryz.prog 119 [vM m, vRule r] [] fun x _ => x = vb (changesB m.places.length r) := by
  refine Con.intro Tryz.func119 rfl Tryz.ntmps119 Tryz.results119 (by kernel_rfl) (by simp) 2 (by simp) ?_
  unfold changesB
  by_cases h1 : r.need.length = m.places.length
  case neg =>
    have h1' : ((r.need.length : Int) == (m.places.length : Int)) = false := beq_eq_false_iff_ne.2 (by omega)
    simp only [go_sem, h1', h1, decide_false, Bool.false_and]
  have h1' : ((r.need.length : Int) == (m.places.length : Int)) = true := beq_iff_eq.2 (by omega)
  by_cases h2 : r.give.length = m.places.length
  case neg =>
    have h2' : ((r.give.length : Int) == (m.places.length : Int)) = false := beq_eq_false_iff_ne.2 (by omega)
    simp only [go_sem, h1', h2', h2, decide_false, Bool.false_and, Bool.and_false]
  have h2' : ((r.give.length : Int) == (m.places.length : Int)) = true := beq_iff_eq.2 (by omega)
  simp only [go_sem, h1', h2']
  refine CallU.free (con_all r.need 166 [] (fun x => betweenB x 0 16) rfl (fun x _ => con_changes1 x) hl.need) (by simp only [go_sem]) (by simp only [go_sem]) ?_
  rintro x bx rfl
  change _ ∧ _
  cases h3 : smallB r.need
  · have h3' : (r.need.all fun x => betweenB x 0 16) = false := h3
    simp only [go_sem, h3', Bool.false_and, Bool.and_false]
  have h3' : (r.need.all fun x => betweenB x 0 16) = true := h3
  simp only [go_sem, h3']
  refine CallU.free (con_all r.give 166 [] (fun x => betweenB x 0 16) rfl (fun x _ => con_changes1 x) hl.give) (by simp only [go_sem]) (by simp only [go_sem]) ?_
  rintro x bx rfl
  simp only [go_sem, h1, h2, decide_true, Bool.true_and]
  rfl
set_option maxRecDepth 100000 in
theorem con_moves1 (x : Int) (n : Nat) (hn : n ≤ 1000000) : Con Tryz.prog 167 [vi x, .fp [vi n] 0] [] fun r _ => r = .sc (.bool (betweenB x (-1) (n - 1))) := by
  refine Con.intro Tryz.func167 rfl Tryz.ntmps167 Tryz.results167 (by kernel_rfl) (by simp) 0 (by simp) ?_
  have hw : IntKind.i64.wrap ((n : Int) - 1) = n - 1 := wrap_in (by omega) (by omega)
  simp only [go_sem, hw]
  refine CallU.free (con_between x (-1) (n - 1)) (by simp only [go_sem]) (by simp only [go_sem]) ?_
  rintro r bx rfl
  simp only [go_sem]
set_option maxRecDepth 100000 in
set_option maxHeartbeats 1000000 in
theorem con_moves (m : MD) (r : RD) (hl : r.Len) (hm : m.places.length ≤ 1000000) : Con Tryz.prog 120 [vM m, vRule r] [] fun x _ => x = vb (movesB m.places.length r) := by
  refine Con.intro Tryz.func120 rfl Tryz.ntmps120 Tryz.results120 (by kernel_rfl) (by simp) 3 (by simp) ?_
  unfold movesB
  by_cases h1 : r.move.length = 0
  · have h1' : ((r.move.length : Int) == 0) = true := beq_iff_eq.2 (by omega)
    simp only [go_sem, h1]
    all_goals simp
  have h1' : ((r.move.length : Int) == 0) = false := beq_eq_false_iff_ne.2 (by omega)
  have h1n : (r.move.length == 0) = false := beq_eq_false_iff_ne.2 h1
  by_cases h2 : r.move.length = m.places.length
  case neg =>
    have h2' : ((r.move.length : Int) == (m.places.length : Int)) = false := beq_eq_false_iff_ne.2 (by omega)
    simp only [go_sem, h1', h2', h1n, h2, decide_false, Bool.false_and, Bool.or_false]
  have h2' : ((r.move.length : Int) == (m.places.length : Int)) = true := beq_iff_eq.2 (by omega)
  simp only [go_sem, h1', h2']
  refine CallU.look (con_all r.move 167 [.fp [vi m.places.length] 0] (fun x => betweenB x (-1) (m.places.length - 1)) (by simp only [go_sem]) (fun x _ => con_moves1 x m.places.length hm) hl.move) (by simp only [go_sem]) (by simp only [go_sem]) ?_
  rintro x bx rfl
  simp only [go_sem]
  rw [h1n, decide_eq_true h2]; simp

/-! ### equal rules -/
theorem getTake {l : List (Int × Int × Int)} {i : Nat} (h : i < l.length) : (l.map vTake)[i]? = some (.ag [.sc (.int .i64 l[i]!.1), .sc (.int .i64 l[i]!.2.1), .sc (.int .i64 l[i]!.2.2)]) := by
  rw [List.getElem?_map, List.getElem?_eq_getElem h, getElem!_pos l i h, Option.map_some]; rfl
theorem eqA_stop {α : Type} [BEq α] [LawfulBEq α] [Inhabited α] {a b : List α} {i : Nat} (h : a[i]! ≠ b[i]!) : (a == b) = false := by
  rw [beq_eq_false_iff_ne]; intro e; rw [e] at h; exact h rfl
theorem eqA_all {α : Type} [BEq α] [LawfulBEq α] [Inhabited α] {a b : List α} (hl : a.length = b.length) (h : ∀ j, j < a.length → a[j]! = b[j]!) : (a == b) = true := by
  rw [beq_iff_eq]
  apply List.ext_getElem hl
  intro i h1 h2
  have := h i h1
  rw [getElem!_pos a i h1, getElem!_pos b i h2] at this; exact this
theorem eqA_len {α : Type} [BEq α] [LawfulBEq α] {a b : List α} (h : a.length ≠ b.length) : (a == b) = false := by
  rw [beq_eq_false_iff_ne]; intro e; rw [e] at h; exact h rfl
@[go_sem] theorem flatF_Take : flatF Tryz.prog 92 = some [(0, true), (1, true), (2, true)] := by kernel_rfl
set_option maxRecDepth 100000 in
theorem con_equalTake (a b : List (Int × Int × Int)) (hl : a.length ≤ 9223372036854775806) : Con Tryz.prog 133 [.sl 0 3 (a.map vTake), .sl 0 3 (b.map vTake)] [] fun r _ => r = .sc (.bool (a == b)) := by
  refine Con.intro Tryz.func133 rfl Tryz.ntmps133 Tryz.results133 (by kernel_rfl) (by simp) 0 (by simp) ?_
  by_cases he : a.length = b.length
  case neg =>
    have he' : ((a.length : Int) != (b.length : Int)) = true := bne_iff_ne.2 (by omega)
    simp only [go_sem, he', eqA_len he]
  simp only [go_sem, he]
  refine LoopK.intro (fun i : Nat => ⟨26, [(0, .sl 0 3 (a.map vTake)), (1, .sl 0 3 (b.map vTake)), (12, vi a.length), (13, vi i)], []⟩)
    (fun i => a.length - i) (fun i => i ≤ a.length ∧ ∀ j, j < i → a[j]! = b[j]!) 0 ⟨by omega, fun j hj => by omega⟩ ?_ ?_
  · simp only [go_sem, he]
    all_goals exact leV_refl _
  rintro i ⟨hi, hb⟩
  by_cases h : i < a.length
  · have h2 : i < b.length := by omega
    have g1 := getTake h
    have g2 := getTake h2
    have hw : IntKind.i64.wrap (i + 1) = i + 1 := wrap_in (by omega) (by omega)
    simp only [go_sem, h]
    refine DrawK.walk 9 mixed (by kernel_rfl) ?_
    by_cases hp : a[i]! = b[i]!
    · simp only [go_sem, h, h2, g1, g2, hp, hw]
      refine roundK.intro (i + 1) ⟨by omega, fun j hj => ?_⟩ (by omega) ?_
      · by_cases hji : j = i
        · subst hji; exact hp
        · exact hb j (by omega)
      · simp only [go_sem]
    · have hp' : (a[i]!.fst == b[i]!.fst && (a[i]!.snd.fst == b[i]!.snd.fst && a[i]!.snd.snd == b[i]!.snd.snd)) = false := by
        rw [Bool.eq_false_iff]
        intro hh
        simp only [Bool.and_eq_true, beq_iff_eq] at hh
        exact hp (Prod.ext hh.1 (Prod.ext hh.2.1 hh.2.2))
      simp only [go_sem, h, h2, g1, g2, hp']
      rw [eqA_stop hp]
  · simp only [go_sem, h]
    rw [eqA_all he (fun j hj => hb j (by omega))]
set_option maxRecDepth 100000 in
set_option maxHeartbeats 2000000 in
theorem con_same_self (a : RD) (hl : a.Len) : Con Tryz.prog 81 [vRule a, vRule a] [] fun x _ => x = vb true := by
  refine Con.intro Tryz.func81 rfl Tryz.ntmps81 Tryz.results81 (by kernel_rfl) (by simp) 2 (by simp) ?_
  dsimp only [List.append]
  simp only [go_sem, beq_self_eq_true]
  refine CallU.free (con_equalInt a.need a.need (hl.need)) (by simp only [go_sem]) (by simp only [go_sem]) ?_
  rintro r bx rfl
  simp only [go_sem, beq_self_eq_true]
  refine CallU.free (con_equalInt a.give a.give (hl.give)) (by simp only [go_sem]) (by simp only [go_sem]) ?_
  rintro r bx rfl
  simp only [go_sem, beq_self_eq_true]
  refine CallU.free (con_equalInt a.move a.move (hl.move)) (by simp only [go_sem]) (by simp only [go_sem]) ?_
  rintro r bx rfl
  simp only [go_sem, beq_self_eq_true]
  refine CallU.free (con_equalInt a.path a.path (hl.path)) (by simp only [go_sem]) (by simp only [go_sem]) ?_
  rintro r bx rfl
  simp only [go_sem, beq_self_eq_true]
  refine CallU.free (con_equalInt a.next a.next (hl.next)) (by simp only [go_sem]) (by simp only [go_sem]) ?_
  rintro r bx rfl
  simp only [go_sem, beq_self_eq_true]
  refine CallU.free (con_equalTake a.takes a.takes (hl.takes)) (by simp only [go_sem]) (by simp only [go_sem]) ?_
  rintro r bx rfl
  simp only [go_sem, beq_self_eq_true]
  refine CallU.free (con_equalInt a.makes a.makes (hl.makes)) (by simp only [go_sem]) (by simp only [go_sem]) ?_
  rintro r bx rfl
  simp only [go_sem, beq_self_eq_true]
end Go.AM

/-! ## CmN -/
namespace Go.AM
open Go Go.Proofs Go.RowKit

theorem Con.leA {P : Program} {f : FuncId} {args args' : List AV} {bx : List (List AV)} {post : AV → List (List AV) → Prop} (h : Con P f args bx post) (ha : leC args' args) : Con P f args' bx post :=
  h.args fun _ _ _ hv => leC_pw ha hv
/-- all orders of a drawn region end in a frame that says no more than τ: what follows is walked from τ, once -/
theorem DrawK.meet {P : Program} {ops : Array Oper} {σ : St} {K : St → Prop} (τ : St) (h : DrawK P ops σ fun σ' => σ'.le τ) (hk : K τ) : DrawK P ops σ K :=
  fun G0 w0 G a w id Q t hs hQ => h G0 w0 G a w id Q t hs fun _ G' a' w' hl h' => hQ τ G' a' w' hk (h'.le hl)
theorem andK_mk {p q : Prop} (h1 : p) (h2 : q) : andK p q := ⟨h1, h2⟩
def rightTree : Tr := .front 0 (.front 2 (.front 4 (.alt (.one 1 (.front 6 (.alt (.one 3 (.alt (.one 5 (.one 7 (.front 8 (.one 9 (.front 10 (.one 11 .done)))))) (.one 7 (.front 8 (.alt (.one 5 (.one 9 (.front 10 (.one 11 .done)))) (.one 9 (.one 5 (.front 10 (.one 11 .done))))))))) (.alt (.one 5 (.alt (.one 3 (.one 7 (.front 8 (.one 9 (.front 10 (.one 11 .done)))))) (.one 7 (.one 3 (.front 8 (.one 9 (.front 10 (.one 11 .done)))))))) (.one 7 (.alt (.one 3 (.front 8 (.alt (.one 5 (.one 9 (.front 10 (.one 11 .done)))) (.one 9 (.one 5 (.front 10 (.one 11 .done))))))) (.one 5 (.one 3 (.front 8 (.one 9 (.front 10 (.one 11 .done)))))))))))) (.alt (.one 3 (.alt (.one 1 (.front 6 (.alt (.one 5 (.one 7 (.front 8 (.one 9 (.front 10 (.one 11 .done)))))) (.one 7 (.front 8 (.alt (.one 5 (.one 9 (.front 10 (.one 11 .done)))) (.one 9 (.one 5 (.front 10 (.one 11 .done)))))))))) (.one 5 (.one 1 (.front 6 (.one 7 (.front 8 (.one 9 (.front 10 (.one 11 .done)))))))))) (.one 5 (.alt (.one 1 (.front 6 (.alt (.one 3 (.one 7 (.front 8 (.one 9 (.front 10 (.one 11 .done)))))) (.one 7 (.one 3 (.front 8 (.one 9 (.front 10 (.one 11 .done))))))))) (.one 3 (.one 1 (.front 6 (.one 7 (.front 8 (.one 9 (.front 10 (.one 11 .done))))))))))))))
theorem nil_of {α : Type} {l : List α} (h : (l.length == 0) = true) : l = [] := List.eq_nil_of_length_eq_zero (by simpa using h)
theorem bare_of {r : RD} (h : bareB r = true) : r = ⟨r.name, r.src, r.dst, r.need, r.give, r.move, 0, 0, 0, [], [], [], [], 0⟩ := by
  unfold bareB at h
  simp only [Bool.and_eq_true, beq_iff_eq] at h
  obtain ⟨⟨⟨⟨⟨⟨⟨h1, h2⟩, h3⟩, h4⟩, h5⟩, h6⟩, h7⟩, h8⟩ := h
  obtain ⟨a, b, c, d, e, f, g, h, i, j, k, l, m, n⟩ := r
  simp only at h1 h2 h3 h4 h5 h6 h7 h8
  rw [h1, h2, h3, List.eq_nil_of_length_eq_zero h4, List.eq_nil_of_length_eq_zero h5, List.eq_nil_of_length_eq_zero h6, List.eq_nil_of_length_eq_zero h7, h8]
abbrev bareR (nm : ByteArray) (s d : Int) (nd gv mv : List Int) : RD := ⟨nm, s, d, nd, gv, mv, 0, 0, 0, [], [], [], [], 0⟩
theorem con_same_only (nm : ByteArray) (s d : Int) (nd gv mv : List Int) (hl : (bareR nm s d nd gv mv).Len) : Con Tryz.prog 81 [vRule (bareR nm s d nd gv mv), .ag [vStr nm, vi s, vi d, vs 0 nd, vs 0 gv, vs 0 mv, vi 0, vi 0, vi 0, .nil, .nil, .nil, .nil, vi 0]] [] fun x _ => x = vb true :=
  (con_same_self _ hl).leA ⟨leV_refl _, leV_ag ⟨leV_refl _, leV_refl _, leV_refl _, leV_refl _, leV_refl _, leV_refl _, leV_refl _, leV_refl _, leV_refl _, leV_nil 0 1, leV_nil 0 1, leV_nil 0 3, leV_nil 0 1, leV_refl _, trivial⟩, trivial⟩
set_option maxRecDepth 100000 in
set_option maxHeartbeats 1000000 in
theorem con_right (m : MD) (r : RD) (hk : m.kind = 1) (hs : m.states.length ≤ 1000000) (hp : m.places.length ≤ 1000000) (hl : r.Len) (hr : ruleB m.states.length m.places.length r = true) (hb : bareB r = true) : Con Tryz.prog 70 [vM m, vRule r] [] fun x _ => x = vb true := by
  obtain ⟨nm, s, d, nd, gv, mv, rfl⟩ : ∃ nm s d nd gv mv, r = bareR nm s d nd gv mv := ⟨_, _, _, _, _, _, bare_of hb⟩
  refine Con.intro Tryz.func70 rfl Tryz.ntmps70 Tryz.results70 (by kernel_rfl) (by simp) 3 (by simp) ?_
  unfold ruleB indexB at hr
  simp only [Bool.and_eq_true] at hr
  obtain ⟨⟨⟨h1, h2⟩, h3⟩, h4⟩ := hr
  have h1 : (decide (0 ≤ d) && decide (d < (m.states.length : Int))) = true := by rw [Bool.and_eq_true]; exact h1
  have h2 : (decide (0 ≤ s) && decide (s < (m.states.length : Int))) = true := by rw [Bool.and_eq_true]; exact h2
  simp only [go_sem, List.map_nil]
  refine CallU.free (con_index d m.states.length (by omega) (by omega)) (by simp only [go_sem]) (by simp only [go_sem]) ?_
  rintro x bx rfl
  simp only [go_sem, h1]
  refine CallU.free (con_index s m.states.length (by omega) (by omega)) (by simp only [go_sem]) (by simp only [go_sem]) ?_
  rintro x bx rfl
  simp only [go_sem, h2, hk]
  refine DrawK.meet ⟨142, [(2, .pb 0 0), (3, .pb 1 0), (4, vb false), (6, .pb 2 0)], [cM m, [vStr nm, vi s, vi d, vs 0 nd, vs 0 gv, vs 0 mv, vi 0, vi 0, vi 0, vs 0 [], vs 0 [], .sl 0 3 [], vs 0 [], vi 0], [vStr nm, vi s, vi d, vs 0 nd, vs 0 gv, vs 0 mv, vi 0, vi 0, vi 0, .nil, .nil, .nil, .nil, vi 0]]⟩ ?_ ?_
  · refine DrawK.tree rightTree mixed (by kernel_rfl) ?_
    unfold rightTree
    repeat' (first | with_reducible apply andK_mk | simp only [go_sem, hk, List.map_nil])
  · simp only [go_sem]
    refine CallU.free (con_changes m (bareR nm s d nd gv mv) hl) (by simp only [go_sem]) (by simp only [go_sem, hk, List.map_nil]) ?_
    rintro x bx rfl
    simp only [go_sem, h3]
    refine CallU.free (con_moves m (bareR nm s d nd gv mv) hl hp) (by simp only [go_sem]) (by simp only [go_sem, hk, List.map_nil]) ?_
    rintro x bx rfl
    simp only [go_sem, h4]
    refine CallU.free (con_same_only nm s d nd gv mv hl) (by simp only [go_sem]) (by simp only [go_sem, List.map_nil]) ?_
    rintro x bx rfl
    simp only [go_sem]
set_option maxRecDepth 100000 in
theorem con_check1 (m : MD) (r : RD) (hk : m.kind = 1) (hs : m.states.length ≤ 1000000) (hp : m.places.length ≤ 1000000) (hl : r.Len) (hr : ruleB m.states.length m.places.length r = true) (hb : bareB r = true) : Con Tryz.prog 69 [vRule r, .fp (cM m) 0] [] fun x _ => x = .sc (.bool false) := by
  refine Con.intro Tryz.func69 rfl Tryz.ntmps69 Tryz.results69 (by kernel_rfl) (by simp) 1 (by simp) ?_
  simp only [go_sem]
  refine CallU.free (con_right m r hk hs hp hl hr hb) (by simp only [go_sem]) (by simp only [go_sem]) ?_
  rintro x bx rfl
  simp only [go_sem]
end Go.AM

/-! ## CmO -/
namespace Go.AM
open Go Go.Proofs Go.RowKit

/-- a type without parts: its kind, its size -/
def vPT (p : Int × Int) : AV := .ag [vi p.1, vi p.2, .nil, .nil]
/-- a tuple of a label and numbers -/
def partsP (ns np : Nat) : List (Int × Int) := (2, (ns : Int)) :: List.replicate np (1, 0)
def flatT (t : Nat) (ps : List (Int × Int)) : AV := .ag [vi 3, vi 0, .nil, .sl t 4 (ps.map vPT)]
attribute [go_sem] vPT flatT
theorem parts_len (ns np : Nat) : (partsP ns np).length = np + 1 := by simp [partsP]
theorem parts_succ (ns i : Nat) : partsP ns (i + 1) = partsP ns i ++ [(1, 0)] := by unfold partsP; rw [List.replicate_succ']; rfl
theorem getPT {l : List (Int × Int)} {i : Nat} (h : i < l.length) : (l.map vPT)[i]? = some (.ag [.sc (.int .i64 l[i]!.1), .sc (.int .i64 l[i]!.2), .nil, .nil]) := by
  rw [List.getElem?_map, List.getElem?_eq_getElem h, getElem!_pos l i h, Option.map_some]; rfl
set_option maxRecDepth 100000 in
theorem con_label (n : Nat) : Con Tryz.prog 137 [vi n] [] fun r _ => r = vPT (2, n) := by
  refine Con.intro Tryz.func137 rfl Tryz.ntmps137 Tryz.results137 (by kernel_rfl) (by simp) 0 (by simp) ?_
  simp only [go_sem]
set_option maxRecDepth 100000 in
set_option maxHeartbeats 1000000 in
theorem con_typed (m : MD) (hk : m.kind = 1) (hp : m.places.length ≤ 1000000) : Con Tryz.prog 85 [vM m] [] fun r _ => r = flatT 2 (partsP m.states.length m.places.length) := by
  refine Con.intro Tryz.func85 rfl Tryz.ntmps85 Tryz.results85 (by kernel_rfl) (by simp) 0 (by simp) ?_
  simp only [go_sem, hk]
  refine CallU.free (con_label m.states.length) (by simp only [go_sem]) (by simp only [go_sem]) ?_
  rintro r bx rfl
  simp only [go_sem]
  refine LoopK.intro (fun i : Nat => ⟨70, [(1, .pb 0 0), (2, .pb 1 0), (3, .sl 640 4 ((partsP m.states.length i).map vPT)), (14, vi m.places.length), (15, vi i)], cM m :: [.any, .any, .any, .any] :: Rk 4 i⟩)
    (fun i => m.places.length - i) (fun i => i ≤ m.places.length) 0 (by omega) ?_ ?_
  · simp only [go_sem, hk, partsP, List.replicate_zero, List.map_cons, List.map_nil]
    exact leB_self _
  rintro i hi
  by_cases h : i < m.places.length
  · have hw : IntKind.i64.wrap (i + 1) = i + 1 := wrap_in (by omega) (by omega)
    have hB := Rk_len 4 i
    have n0 := fun L : List (List AV) => app_at0 (L := L) hB
    have s0 := fun (L : List (List AV)) z => app_set0 (L := L) (z := z) hB
    have e := parts_succ m.states.length i
    simp only [go_sem, h, hk, hw, hB, n0, s0]
    refine ⟨by simp only [roomFor, parts_len]; omega, ?_⟩
    refine roundK.intro (i + 1) (by omega) (by omega) ?_
    simp only [go_sem, Rk_succ, e, List.map_append, List.map_cons, List.map_nil]
    exact leB_RkA ⟨leC_any _ 4 rfl, trivial⟩
  · obtain rfl : i = m.places.length := by omega
    simp only [go_sem, h]

/-! ### right types -/
def TellsP (f : FuncId) (caps : List AV) (l : List (Int × Int)) (p : Int × Int → Bool) : Prop := ∀ x ∈ l, Con Tryz.prog f ([vPT x] ++ caps) [] fun r _ => r = .sc (.bool (p x))
set_option maxRecDepth 100000 in
theorem con_indexPT (l : List (Int × Int)) (f : FuncId) (caps : List AV) (p : Int × Int → Bool) (hc : mapTops (viewV []) caps = caps) (hf : TellsP f caps l p) (hl : l.length ≤ 9223372036854775806) : Con Tryz.prog 205 [.sl 0 4 (l.map vPT), .fn f caps] [] fun r _ => r = vi (findI p l) := by
  refine Con.intro Tryz.func205 rfl Tryz.ntmps205 Tryz.results205 (by kernel_rfl) (by simp) 0 (by simp) ?_
  simp only [go_sem]
  refine LoopK.intro (fun i : Nat => ⟨19, [(0, .sl 0 4 (l.map vPT)), (1, .fn f caps), (7, vi l.length), (8, vi i)], []⟩)
    (fun i => l.length - i) (fun i => i ≤ l.length ∧ ∀ j, j < i → p l[j]! = false) 0 ⟨by omega, fun j hj => by omega⟩ ?_ ?_
  · simp only [go_sem]
    all_goals exact leV_refl _
  · rintro i ⟨hi, hb⟩
    by_cases h : i < l.length
    · have hg := getPT h
      have hw : IntKind.i64.wrap (i + 1) = i + 1 := wrap_in (by omega) (by omega)
      simp only [go_sem, h, hg]
      refine CallU.look (hf l[i]! (mem_bangI h)) (by simp only [go_sem]) (by simp only [go_sem, hc]) ?_
      rintro r bx rfl
      cases hp : p l[i]!
      · simp only [go_sem, hw]
        refine roundK.intro (i + 1) ⟨by omega, fun j hj => ?_⟩ (by omega) ?_
        · by_cases hji : j = i
          · subst hji; exact hp
          · exact hb j (by omega)
        · simp only [go_sem]
      · simp only [go_sem]
        rw [findI_stop h hb hp]
    · simp only [go_sem, h]
      rw [findI_none (fun j hj => hb j (by omega))]
set_option maxRecDepth 100000 in
theorem con_containsPT (l : List (Int × Int)) (f : FuncId) (caps : List AV) (p : Int × Int → Bool) (hc : mapTops (viewV []) caps = caps) (hf : TellsP f caps l p) (hl : l.length ≤ 9223372036854775806) : Con Tryz.prog 194 [.sl 0 4 (l.map vPT), .fn f caps] [] fun r _ => r = .sc (.bool (l.any p)) := by
  refine Con.intro Tryz.func194 rfl Tryz.ntmps194 Tryz.results194 (by kernel_rfl) (by simp) 0 (by simp) ?_
  simp only [go_sem]
  refine CallU.look (con_indexPT l f caps p hc hf hl) (by simp only [go_sem]) (by simp only [go_sem]) ?_
  rintro r bx rfl
  simp only [go_sem, findI_ge]
/-- a type of numbers, or of 1 to 16 labels -/
def LeafP (p : Int × Int) : Prop := p = (1, 0) ∨ p.1 = 2 ∧ 1 ≤ p.2 ∧ p.2 ≤ 16
set_option maxRecDepth 100000 in
theorem con_rightLeaf (p : Int × Int) (d : Int) (hd : d ≠ 0) (hp : LeafP p) : Con Tryz.prog 176 [vPT p, vi d] [] fun r _ => r = vb true := by
  refine Con.intro Tryz.func176 rfl Tryz.ntmps176 Tryz.results176 (by kernel_rfl) (by simp) 2 (by simp) ?_
  have hd' : (d == 0) = false := beq_eq_false_iff_ne.2 hd
  obtain ⟨k, s⟩ := p
  rcases hp with hp | ⟨rfl, h1, h2⟩
  · cases hp
    simp only [go_sem, hd']
  · simp only at h1 h2
    simp only [go_sem, hd', h1, h2]
set_option maxRecDepth 100000 in
theorem con_right1 (p : Int × Int) (hp : LeafP p) : Con Tryz.prog 195 [vPT p, .fp [vi 8] 0] [] fun r _ => r = .sc (.bool false) := by
  refine Con.intro Tryz.func195 rfl Tryz.ntmps195 Tryz.results195 (by kernel_rfl) (by simp) 1 (by simp) ?_
  have hw : IntKind.i64.wrap 7 = 7 := wrap_in (by omega) (by omega)
  simp only [go_sem, hw]
  refine CallU.free (con_rightLeaf p 7 (by omega) hp) (by simp only [go_sem]) (by simp only [go_sem]) ?_
  rintro r bx rfl
  simp only [go_sem]
theorem any_false {α : Type} (l : List α) : (l.any fun _ => false) = false := by simp
set_option maxRecDepth 100000 in
theorem con_rightFlat (ps : List (Int × Int)) (h1 : 1 ≤ ps.length) (h2 : ps.length ≤ 8) (hp : ∀ p ∈ ps, LeafP p) : Con Tryz.prog 176 [flatT 0 ps, vi 8] [] fun r _ => r = vb true := by
  refine Con.intro Tryz.func176 rfl Tryz.ntmps176 Tryz.results176 (by kernel_rfl) (by simp) 2 (by simp) ?_
  have a1 : ((ps.length : Int) == 0) = false := beq_eq_false_iff_ne.2 (by omega)
  have a2 : ¬ ((8 : Int) < ps.length) := by omega
  simp only [go_sem, a1, a2]
  refine CallU.look (con_containsPT ps 195 [.fp [vi 8] 0] (fun _ => false) (by simp only [go_sem]) (fun x hx => con_right1 x (hp x hx)) (by omega)) (by simp only [go_sem]) (by simp only [go_sem]) ?_
  rintro r bx rfl
  simp only [go_sem, any_false]
set_option maxRecDepth 100000 in
theorem con_ocheck (ps : List (Int × Int)) (h1 : 1 ≤ ps.length) (h2 : ps.length ≤ 8) (hp : ∀ p ∈ ps, LeafP p) : Con Tryz.prog 142 [flatT 0 ps] [] fun r _ => r = vi 0 := by
  refine Con.intro Tryz.func142 rfl Tryz.ntmps142 Tryz.results142 (by kernel_rfl) (by simp) 1 (by simp) ?_
  simp only [go_sem]
  refine CallU.free (con_rightFlat ps h1 h2 hp) (by simp only [go_sem]) (by simp only [go_sem]) ?_
  rintro r bx rfl
  simp only [go_sem]
end Go.AM

/-! ## CmP -/
namespace Go.AM
open Go Go.Proofs Go.RowKit

mutual
/-- the number of nodes, or more than 'most' -/
def countV : CV → Int → Int
  | .mk _ kids, most => countVs kids most 1
def countVs : List CV → Int → Int → Int
  | [], _, n => n
  | k :: l, most, n => if most < n then n else countVs l most (n + countV k (most - n))
end
mutual
theorem countV_bnd : ∀ (v : CV) (most : Int), 0 ≤ most → 1 ≤ countV v most ∧ countV v most ≤ most + 1
  | .mk _ kids, most, h => by
    have := countVs_bnd kids most 1 h (by omega) (by omega)
    rw [countV]; exact this
theorem countVs_bnd : ∀ (l : List CV) (most n : Int), 0 ≤ most → 1 ≤ n → n ≤ most + 1 → 1 ≤ countVs l most n ∧ countVs l most n ≤ most + 1
  | [], most, n, h, h1, h2 => by rw [countVs]; exact ⟨h1, h2⟩
  | k :: l, most, n, h, h1, h2 => by
    rw [countVs]
    by_cases hm : most < n
    · rw [if_pos hm]; exact ⟨h1, h2⟩
    · rw [if_neg hm]
      have := countV_bnd k (most - n) (by omega)
      exact countVs_bnd l most _ h (by omega) (by omega)
end
theorem drop_kid {l : List CV} {i : Nat} (h : i < l.length) : l.drop i = l[i]! :: l.drop (i + 1) := by
  rw [List.drop_eq_getElem_cons h, getElem!_pos l i h]
set_option maxRecDepth 100000 in
theorem con_count (v : CV) (most : Int) (h1 : 0 ≤ most) (h2 : most ≤ 128) (hv : v.Ok) : Con Tryz.prog 145 [vV v, vi most] [] fun r _ => r = vi (countV v most) := by
  have key : ∀ (s : Nat) (v : CV) (most : Int), SizeOf.sizeOf v ≤ s → 0 ≤ most → most ≤ 128 → v.Ok → Con Tryz.prog 145 [vV v, vi most] [] fun r _ => r = vi (countV v most) := by
    intro s
    induction s with
    | zero => intro v _ hs; cases v; rw [CV.mk.sizeOf_spec] at hs; omega
    | succ s ih =>
      intro v most hs h1 h2 hv
      have hlen := hv.len
      have e0 : countV v most = countVs v.kids most 1 := by cases v; rw [countV]; rfl
      rw [vV_eq, e0]
      refine Con.intro Tryz.func145 rfl Tryz.ntmps145 Tryz.results145 (by kernel_rfl) (by simp) 1 (by simp) ?_
      simp only [go_sem]
      refine LoopK.intro (fun q : Nat × Int => ⟨27, [(1, vi most), (2, .pb 0 0), (5, vi q.2), (9, .sl 0 2 (v.kids.map vV)), (10, vi v.kids.length), (11, vi q.1)], [vi v.n, .sl 0 2 (v.kids.map vV)] :: Rk 2 q.1⟩)
        (fun q => v.kids.length - q.1) (fun q => q.1 ≤ v.kids.length ∧ 1 ≤ q.2 ∧ q.2 ≤ most + 1 ∧ countVs (v.kids.drop q.1) most q.2 = countVs v.kids most 1) (0, 1) ⟨by simp, by simp, by show (1 : Int) ≤ most + 1; omega, rfl⟩ ?_ ?_
      · simp only [go_sem]
        exact leB_self _
      rintro ⟨i, n⟩ ⟨hi, hn1, hn2, he⟩
      simp only at hi hn1 hn2 he
      by_cases h : i < v.kids.length
      · have hg := getvV h
        have hw : IntKind.i64.wrap (i + 1) = i + 1 := wrap_in (by omega) (by omega)
        have hB := Rk_len 2 i
        have n0 := fun L : List (List AV) => app_at0 (L := L) hB
        have s0 := fun (L : List (List AV)) z => app_set0 (L := L) (z := z) hB
        rw [drop_kid h, countVs] at he
        by_cases hm : most < n
        · rw [if_pos hm] at he
          simp only [go_sem, h, hg, hB, n0, s0, hm]
          rw [he]
        · rw [if_neg hm] at he
          have hmem : v.kids[i]! ∈ v.kids := mem_bangI h
          have hk := countV_bnd v.kids[i]! (most - n) (by omega)
          have hw2 : IntKind.i64.wrap (most - n) = most - n := wrap_in (by omega) (by omega)
          have hw3 : IntKind.i64.wrap (n + countV v.kids[i]! (most - n)) = n + countV v.kids[i]! (most - n) := wrap_in (by omega) (by omega)
          simp only [go_sem, h, hg, hB, n0, s0, hm, hw2]
          refine CallU.free (ih v.kids[i]! (most - n) (by have := kid_size hmem; omega) (by omega) (by omega) (hv.kid hmem)) (by simp only [go_sem]) (by simp only [go_sem, vV_eq]) ?_
          rintro r bx rfl
          simp only [go_sem, hw, hw3]
          refine roundK.intro (i + 1, n + countV v.kids[i]! (most - n)) ⟨by show i + 1 ≤ _; omega, by show 1 ≤ n + _; omega, by show n + _ ≤ most + 1; omega, he⟩ (by show v.kids.length - (i + 1) < v.kids.length - i; omega) ?_
          simp only [go_sem, Rk_succ]
          exact leB_RkA ⟨leC_any _ 2 rfl, trivial⟩
      · obtain rfl : i = v.kids.length := by omega
        rw [List.drop_length, countVs] at he
        simp only [go_sem, h, he]
  exact key _ v most (Nat.le_refl _) h1 h2 hv
set_option maxRecDepth 100000 in
theorem con_size (v : CV) (hv : v.Ok) : Con Tryz.prog 91 [vV v] [] fun r _ => r = vi (countV v 128) := by
  rw [vV_eq]
  refine Con.intro Tryz.func91 rfl Tryz.ntmps91 Tryz.results91 (by kernel_rfl) (by simp) 1 (by simp) ?_
  simp only [go_sem]
  refine CallU.free (con_count v 128 (by omega) (by omega) hv) (by simp only [go_sem]) (by simp only [go_sem, vV_eq]) ?_
  rintro r bx rfl
  have hb := countV_bnd v 128 (by omega)
  have e : min (countV v 128) 129 = countV v 128 := by omega
  simp only [go_sem, e]
/-- a value of a type without parts -/
def leafOk (p : Int × Int) (v : CV) : Bool := if p.1 = 1 then decide (0 ≤ v.n) && decide (v.n ≤ 1048576) && v.kids.length == 0 else decide (0 ≤ v.n) && decide (v.n < p.2) && v.kids.length == 0
theorem zero_len {α : Type} (l : List α) : ((l.length : Int) == 0) = (l.length == 0) := by rw [Bool.eq_iff_iff]; simp
set_option maxRecDepth 100000 in
theorem con_olabel (v : CV) (s : Int) : Con Tryz.prog 177 [vV v, vi s] [] fun r _ => r = vb (decide (0 ≤ v.n) && decide (v.n < s) && v.kids.length == 0) := by
  rw [vV_eq]
  refine Con.intro Tryz.func177 rfl Tryz.ntmps177 Tryz.results177 (by kernel_rfl) (by simp) 1 (by simp) ?_
  by_cases h1 : 0 ≤ v.n
  · by_cases h2 : v.n < s
    · simp only [go_sem, h1, h2, zero_len, decide_true, Bool.true_and]
    · simp only [go_sem, h1, h2, decide_false, Bool.false_and, Bool.and_false]
  · simp only [go_sem, h1, decide_false, Bool.false_and]
set_option maxRecDepth 100000 in
theorem con_oneLeaf (p : Int × Int) (v : CV) (hp : LeafP p) : Con Tryz.prog 143 [vPT p, vV v] [] fun r _ => r = vb (leafOk p v) := by
  rw [vV_eq]
  refine Con.intro Tryz.func143 rfl Tryz.ntmps143 Tryz.results143 (by kernel_rfl) (by simp) 2 (by simp) ?_
  obtain ⟨k, s⟩ := p
  rcases hp with hp | ⟨rfl, h1, h2⟩
  · cases hp
    have e : leafOk (1, 0) v = (decide (0 ≤ v.n) && decide (v.n ≤ 1048576) && v.kids.length == 0) := by unfold leafOk; rw [if_pos rfl]
    rw [e]
    by_cases h1 : 0 ≤ v.n
    · by_cases h2 : v.n ≤ 1048576
      · simp only [go_sem, h1, h2, zero_len, decide_true, Bool.true_and]
      · simp only [go_sem, h1, h2, decide_false, Bool.false_and, Bool.and_false]
    · simp only [go_sem, h1, decide_false, Bool.false_and]
  · have e : leafOk (2, s) v = (decide (0 ≤ v.n) && decide (v.n < s) && v.kids.length == 0) := by unfold leafOk; rw [if_neg (by simp)]
    rw [e]
    simp only [go_sem]
    refine CallU.free (con_olabel v s) (by simp only [go_sem]) (by simp only [go_sem, vV_eq]) ?_
    rintro r bx rfl
    simp only [go_sem]
/-- a value of a tuple's type -/
def flatOk (ps : List (Int × Int)) (v : CV) : Bool := v.n == 0 && decide (v.kids.length = ps.length) && (List.range ps.length).all fun i => leafOk ps[i]! v.kids[i]!
theorem flat_bad {ps : List (Int × Int)} {v : CV} {i : Nat} (h : i < ps.length) (hb : leafOk ps[i]! v.kids[i]! = false) : flatOk ps v = false := by
  unfold flatOk
  have : ((List.range ps.length).all fun i => leafOk ps[i]! v.kids[i]!) = false := by
    rw [List.all_eq_false]; exact ⟨i, List.mem_range.2 h, by rw [hb]; simp⟩
  rw [this, Bool.and_false]
theorem flat_good {ps : List (Int × Int)} {v : CV} (h0 : v.n = 0) (hl : v.kids.length = ps.length) (h : ∀ i, i < ps.length → leafOk ps[i]! v.kids[i]! = true) : flatOk ps v = true := by
  unfold flatOk
  have : ((List.range ps.length).all fun i => leafOk ps[i]! v.kids[i]!) = true := by
    rw [List.all_eq_true]; exact fun i hi => h i (List.mem_range.1 hi)
  rw [this, h0, decide_eq_true hl]; rfl
set_option maxRecDepth 100000 in
theorem con_oneFlat (ps : List (Int × Int)) (v : CV) (hp : ∀ p ∈ ps, LeafP p) (hl : v.kids.length ≤ 9223372036854775806) : Con Tryz.prog 143 [flatT 0 ps, vV v] [] fun r _ => r = vb (flatOk ps v) := by
  rw [vV_eq]
  refine Con.intro Tryz.func143 rfl Tryz.ntmps143 Tryz.results143 (by kernel_rfl) (by simp) 2 (by simp) ?_
  by_cases h0 : v.n = 0
  case neg =>
    have h0' : (v.n != 0) = true := bne_iff_ne.2 h0
    have e : flatOk ps v = false := by unfold flatOk; rw [beq_eq_false_iff_ne.2 h0]; rfl
    simp only [go_sem, h0', e]
  have h0' : (v.n != 0) = false := by rw [h0]; rfl
  by_cases hn : v.kids.length = ps.length
  case neg =>
    have hn' : ((v.kids.length : Int) != (ps.length : Int)) = true := bne_iff_ne.2 (by omega)
    have e : flatOk ps v = false := by unfold flatOk; rw [decide_eq_false hn, Bool.and_false]; rfl
    simp only [go_sem, h0', hn', e]
  have hn' : ((v.kids.length : Int) != (ps.length : Int)) = false := by rw [hn]; simp
  simp only [go_sem, h0', hn']
  refine LoopK.intro (fun i : Nat => ⟨110, [(2, .pb 0 0), (3, .pb 1 0), (46, .sl 0 2 (v.kids.map vV)), (47, vi v.kids.length), (48, vi i)], [vi 3, vi 0, .nil, .sl 0 4 (ps.map vPT)] :: [vi v.n, .sl 0 2 (v.kids.map vV)] :: Rk 2 i⟩)
    (fun i => v.kids.length - i) (fun i => i ≤ v.kids.length ∧ ∀ j, j < i → leafOk ps[j]! v.kids[j]! = true) 0 ⟨by omega, fun j hj => by omega⟩ ?_ ?_
  · simp only [go_sem]
    exact leB_self _
  rintro i ⟨hi, hb⟩
  by_cases h : i < v.kids.length
  · have h2 : i < ps.length := by omega
    have hg := getvV h
    have hg2 := getPT h2
    have hw : IntKind.i64.wrap (i + 1) = i + 1 := wrap_in (by omega) (by omega)
    have hB := Rk_len 2 i
    have n0 := fun L : List (List AV) => app_at0 (L := L) hB
    have s0 := fun (L : List (List AV)) z => app_set0 (L := L) (z := z) hB
    simp only [go_sem, h, hg, hB, n0, s0]
    refine DrawK.walk 8 mixed (by kernel_rfl) ?_
    simp only [go_sem, h2, hg2, n0]
    refine CallY.mk (con_oneLeaf ps[i]! v.kids[i]! (hp _ (mem_bangI h2))) (by simp only [go_sem, vV_eq]) (by simp only [go_sem]) (.inl (by simp only [go_sem])) ?_
    cases hq : leafOk ps[i]! v.kids[i]!
    · simp only [go_sem]
      rw [flat_bad h2 hq]
    · simp only [go_sem, hw]
      refine roundK.intro (i + 1) ⟨by omega, fun j hj => ?_⟩ (by omega) ?_
      · by_cases hji : j = i
        · subst hji; exact hq
        · exact hb j (by omega)
      · simp only [go_sem, Rk_succ]
        exact leB_RkA ⟨leC_any _ 2 rfl, trivial⟩
  · simp only [go_sem, h]
    rw [flat_good h0 hn (fun j hj => hb j (by omega))]
end Go.AM

/-! ## CmQ -/
namespace Go.AM
open Go Go.Proofs Go.RowKit

theorem conf_flat (ns np : Nat) (c : CV) : flatOk (partsP ns np) c = confB ns np c := by
  obtain ⟨n, kids⟩ := c
  rw [Bool.eq_iff_iff]
  unfold flatOk
  rw [parts_len]
  simp only [CV.n, CV.kids, Bool.and_eq_true, beq_iff_eq, List.all_eq_true, List.mem_range]
  have hz : (partsP ns np)[0]! = (2, (ns : Int)) := rfl
  have hs : ∀ i, i < np → (partsP ns np)[i + 1]! = (1, 0) := fun i hi => by
    unfold partsP
    rw [List.getElem!_cons_succ, getElem!_pos _ i (by simpa using hi), List.getElem_replicate]
  have l0 : ∀ x : CV, leafOk (2, (ns : Int)) x = true ↔ 0 ≤ x.n ∧ x.n < ns ∧ x.kids.length = 0 := fun x => by
    unfold leafOk; rw [if_neg (by simp)]
    simp only [Bool.and_eq_true, decide_eq_true_eq, beq_iff_eq, and_assoc]
  have l1 : ∀ x : CV, leafOk (1, 0) x = true ↔ 0 ≤ x.n ∧ x.n ≤ 1048576 ∧ x.kids.length = 0 := fun x => by
    unfold leafOk; rw [if_pos rfl]
    simp only [Bool.and_eq_true, decide_eq_true_eq, beq_iff_eq, and_assoc]
  cases kids with
  | nil => simp [confB]
  | cons x l =>
    unfold confB
    simp only [Bool.and_eq_true, beq_iff_eq, decide_eq_true_eq, List.all_eq_true, List.length_cons]
    constructor
    · rintro ⟨⟨h0, hl⟩, h⟩
      have hl := of_decide_eq_true hl
      have hx := (l0 x).1 (by have := h 0 (by omega); rw [hz] at this; exact this)
      refine ⟨⟨⟨⟨⟨h0, hx.1⟩, hx.2.1⟩, hx.2.2⟩, by omega⟩, fun k hk => ?_⟩
      obtain ⟨j, hj⟩ := List.getElem?_of_mem hk
      have hjl := (List.getElem?_eq_some_iff.1 hj).1
      have hj2 := h (j + 1) (by omega)
      rw [hs j (by omega), List.getElem!_cons_succ, getElem!_pos l j hjl, (List.getElem?_eq_some_iff.1 hj).2] at hj2
      have := (l1 k).1 hj2
      exact ⟨⟨this.1, this.2.1⟩, this.2.2⟩
    · rintro ⟨⟨⟨⟨⟨h0, h1⟩, h2⟩, h3⟩, hl⟩, h⟩
      refine ⟨⟨h0, decide_eq_true (by omega)⟩, fun i hi => ?_⟩
      cases i with
      | zero => rw [hz]; exact (l0 x).2 ⟨h1, h2, h3⟩
      | succ i =>
        rw [hs i (by omega), List.getElem!_cons_succ]
        have hm : l[i]! ∈ l := mem_bangI (by omega)
        have := h _ hm
        exact (l1 _).2 ⟨this.1.1, this.1.2, this.2⟩
theorem count_leaf {k : CV} (h : k.kids.length = 0) (most : Int) : countV k most = 1 := by
  obtain ⟨n, kids⟩ := k
  have : kids = [] := List.eq_nil_of_length_eq_zero h
  subst this
  rw [countV, countVs]
theorem count_leafs : ∀ (l : List CV) (most n : Int), (∀ k ∈ l, k.kids.length = 0) → n + l.length ≤ most + 1 → countVs l most n = n + l.length
  | [], most, n, _, _ => by rw [countVs]; simp
  | k :: l, most, n, h, hb => by
    simp only [List.length_cons] at hb ⊢
    rw [countVs, if_neg (by omega), count_leaf (h k (List.mem_cons_self ..)), count_leafs l most (n + 1) (fun x hx => h x (List.mem_cons_of_mem _ hx)) (by omega)]
    omega
theorem conf_count {ns np : Nat} {c : CV} (hp : np ≤ 100) (h : confB ns np c = true) : countV c 128 ≤ 128 := by
  obtain ⟨n, kids⟩ := c
  cases kids with
  | nil => simp [confB] at h
  | cons x l =>
    unfold confB at h
    simp only [Bool.and_eq_true, beq_iff_eq, decide_eq_true_eq, List.all_eq_true] at h
    obtain ⟨⟨⟨⟨⟨h0, h1⟩, h2⟩, h3⟩, hl⟩, h⟩ := h
    rw [countV, count_leafs (x :: l) 128 1 (fun k hk => ?_) (by simp only [List.length_cons]; omega)]
    · simp only [List.length_cons]; omega
    · rcases List.mem_cons.1 hk with rfl | hk
      · exact h3
      · exact (h k hk).2
theorem parts_leaf {ns np : Nat} (h1 : 1 ≤ ns) (h2 : ns ≤ 16) : ∀ p ∈ partsP ns np, LeafP p := fun p hp => by
  unfold partsP at hp
  rcases List.mem_cons.1 hp with rfl | hp
  · exact .inr ⟨rfl, by show (1 : Int) ≤ ns; omega, by show (ns : Int) ≤ 16; omega⟩
  · exact .inl (List.mem_replicate.1 hp).2
set_option maxRecDepth 100000 in
theorem con_ovalid (ns np : Nat) (v : CV) (h1 : 1 ≤ ns) (h2 : ns ≤ 16) (h3 : np ≤ 7) (hv : v.Ok) (hl : v.kids.length ≤ 9223372036854775806) : Con Tryz.prog 88 [flatT 0 (partsP ns np), vV v] [] fun r _ => r = vb (confB ns np v) := by
  have e0 := vV_eq v
  rw [e0]
  refine Con.intro Tryz.func88 rfl Tryz.ntmps88 Tryz.results88 (by kernel_rfl) (by simp) 2 (by simp) ?_
  simp only [go_sem]
  refine CallU.free (con_ocheck (partsP ns np) (by rw [parts_len]; omega) (by rw [parts_len]; omega) (parts_leaf h1 h2)) (by simp only [go_sem]) (by simp only [go_sem]) ?_
  rintro r bx rfl
  simp only [go_sem]
  refine CallU.free (con_size v hv) (by simp only [go_sem]) (by simp only [go_sem, vV_eq]) ?_
  rintro r bx rfl
  by_cases hc : countV v 128 ≤ 128
  · simp only [go_sem, hc]
    refine CallU.free (con_oneFlat (partsP ns np) v (parts_leaf h1 h2) hl) (by simp only [go_sem]) (by simp only [go_sem, vV_eq]) ?_
    rintro r bx rfl
    simp only [go_sem, conf_flat]
  · have e : confB ns np v = false := by
      cases hb : confB ns np v
      · rfl
      · exact absurd (conf_count (by omega) hb) hc
    simp only [go_sem, hc, e]

/-! ### valid counter models -/
theorem rule_len {ns np : Nat} {r : RD} (hp : np ≤ 1000000) (hr : ruleB ns np r = true) (hb : bareB r = true) : r.Len := by
  unfold ruleB changesB movesB at hr
  unfold bareB at hb
  simp only [Bool.and_eq_true, Bool.or_eq_true, decide_eq_true_eq, beq_iff_eq] at hr hb
  refine ⟨by omega, by omega, ?_, by omega, by omega, by omega, by omega⟩
  rcases hr.2 with h | h <;> omega
theorem conf_ok {ns np : Nat} {c : CV} (hp : np ≤ 1000000) (h : confB ns np c = true) : c.Ok ∧ c.kids.length = np + 1 := by
  obtain ⟨n, kids⟩ := c
  cases kids with
  | nil => simp [confB] at h
  | cons x l =>
    unfold confB at h
    simp only [Bool.and_eq_true, beq_iff_eq, decide_eq_true_eq, List.all_eq_true] at h
    obtain ⟨⟨⟨⟨⟨h0, h1⟩, h2⟩, h3⟩, hl⟩, h⟩ := h
    have leaf : ∀ k : CV, k.kids.length = 0 → k.Ok := fun k hk => by
      obtain ⟨m, ks⟩ := k
      have : ks = [] := List.eq_nil_of_length_eq_zero hk
      subst this
      exact .mk m [] (by simp) (fun _ hx => by simp at hx)
    refine ⟨.mk n _ (by simp only [List.length_cons]; omega) fun k hk => ?_, by simp only [CV.kids, List.length_cons]; omega⟩
    rcases List.mem_cons.1 hk with rfl | hk
    · exact leaf _ h3
    · exact leaf _ (h k hk).2
theorem names_size {l : List ByteArray} (h : namesB l = true) : ∀ s ∈ l, s.size ≤ 9223372036854775806 := fun s hs => by
  unfold namesB at h
  rw [List.all_eq_true] at h
  obtain ⟨i, hi⟩ := List.getElem?_of_mem hs
  have hil := (List.getElem?_eq_some_iff.1 hi).1
  have := h i (List.mem_range.2 hil)
  unfold okN wordB at this
  rw [getElem!_pos l i hil, (List.getElem?_eq_some_iff.1 hi).2] at this
  simp only [Bool.and_eq_true, decide_eq_true_eq] at this
  omega
theorem good_sized {m : MD} (h : GoodM m) : sizedB m = true := by
  have e : limF m.kind = [1, 6, 0, 0, 0, 0, 0, 0] := by rw [h.kind]; rfl
  have h1 := h.states
  have h2 := h.places
  have h3 := h.few
  unfold sizedB lim betweenB
  rw [e, h.letters, h.levels, h.age]
  simp only [List.getD_cons_zero, List.getD_cons_succ, Bool.and_eq_true, decide_eq_true_eq, List.length_nil]
  refine ⟨⟨⟨⟨⟨⟨?_, ?_⟩, ?_⟩, ?_, ?_⟩, ?_⟩, ?_⟩, ?_⟩ <;> first | omega | simp
theorem good_ranked {m : MD} (h : GoodM m) : rankedB m = true := by
  unfold rankedB
  rw [h.kind, h.ranks]; rfl
theorem good_named {m : MD} (h : GoodM m) : (namesOf m).length ≤ 1000000 := by
  have h1 := h.states
  have h2 := h.places
  have h3 := h.few
  unfold namesOf
  simp only [List.length_append, List.length_map, h.letters, List.length_nil]
  omega
set_option maxRecDepth 100000 in
set_option maxHeartbeats 1000000 in
theorem con_begins (m : MD) (h : GoodM m) : Con Tryz.prog 71 [vM m] [] fun r _ => r = vb true := by
  refine Con.intro Tryz.func71 rfl Tryz.ntmps71 Tryz.results71 (by kernel_rfl) (by simp) 1 (by simp) ?_
  have h1 := h.states
  have h2 := h.places
  have hk := h.kind
  have hc := conf_ok (by omega) h.start
  simp only [go_sem, hk]
  refine DrawK.walk 6 mixed (by kernel_rfl) ?_
  simp only [go_sem]
  refine CallY.mk (con_typed m hk (by omega)) (by simp only [go_sem, hk]) (by simp only [go_sem]) (.inl (by simp only [go_sem])) ?_
  simp only [go_sem]
  refine CallY.mk (con_ovalid m.states.length m.places.length m.start (by omega) (by omega) (by omega) hc.1 (by omega)) (by simp only [go_sem, vV_eq]) (by simp only [go_sem]) (.inr (by simp only [go_sem])) ?_
  simp only [go_sem, h.start]
set_option maxRecDepth 100000 in
set_option maxHeartbeats 1000000 in
theorem con_check (m : MD) (h : GoodM m) : Con Tryz.prog 21 [vM m] [] fun r _ => r = vi 0 := by
  refine Con.intro Tryz.func21 rfl Tryz.ntmps21 Tryz.results21 (by kernel_rfl) (by simp) 1 (by simp) ?_
  have h1 := h.states
  have h2 := h.places
  have h3 := h.few
  have hk := h.kind
  have hr0 : m.ranks.length ≤ 9223372036854775806 := by rw [h.ranks]; simp
  simp only [go_sem, hk]
  refine CallU.free (con_between 1 1 6) (by simp only [go_sem]) (by simp only [go_sem]) ?_
  rintro r bx rfl
  have e1 : betweenB 1 1 6 = true := by decide
  simp only [go_sem, e1]
  refine CallU.free (con_sized m) (by simp only [go_sem]) (by simp only [go_sem, hk]) ?_
  rintro r bx rfl
  simp only [go_sem, good_sized h]
  refine CallU.free (con_ranked m hr0) (by simp only [go_sem]) (by simp only [go_sem, hk]) ?_
  rintro r bx rfl
  simp only [go_sem, good_ranked h]
  refine CallU.free (con_named m h1.1 (good_named h) (names_size h.names)) (by simp only [go_sem]) (by simp only [go_sem, hk]) ?_
  rintro r bx rfl
  simp only [go_sem, h.names]
  refine CallU.look (con_containsRule m.rules 69 [.fp (cM m) 0] (fun _ => false) (by simp only [go_sem]) (fun r hr => con_check1 m r hk (by omega) (by omega) (rule_len (by omega) (h.rules r hr).1 (h.rules r hr).2) (h.rules r hr).1 (h.rules r hr).2) (by omega)) (by simp only [go_sem]) (by simp only [go_sem, hk]) ?_
  rintro r bx rfl
  simp only [go_sem, any_false]
  refine CallU.free (con_begins m h) (by simp only [go_sem]) (by simp only [go_sem, hk]) ?_
  rintro r bx rfl
  simp only [go_sem]
set_option maxRecDepth 100000 in
set_option maxHeartbeats 1000000 in
theorem con_mvalid (m : MD) (c : CV) (h : GoodM m) (hc : c.Ok) (hl : c.kids.length ≤ 9223372036854775806) : Con Tryz.prog 37 [vM m, vV c] [] fun r _ => r = vb (confB m.states.length m.places.length c) := by
  have e0 := vV_eq c
  rw [e0]
  refine Con.intro Tryz.func37 rfl Tryz.ntmps37 Tryz.results37 (by kernel_rfl) (by simp) 2 (by simp) ?_
  have h1 := h.states
  have h2 := h.places
  have hk := h.kind
  simp only [go_sem, hk]
  refine DrawK.walk 10 mixed (by kernel_rfl) ?_
  simp only [go_sem]
  refine CallY.mk (con_check m h) (by simp only [go_sem, hk]) (by simp only [go_sem]) (.inl (by simp only [go_sem])) ?_
  simp only [go_sem]
  refine CallY.mk (con_typed m hk (by omega)) (by simp only [go_sem, hk]) (by simp only [go_sem]) (.inl (by simp only [go_sem])) ?_
  simp only [go_sem]
  refine CallY.mk (con_ovalid m.states.length m.places.length c (by omega) (by omega) (by omega) hc hl) (by simp only [go_sem, vV_eq]) (by simp only [go_sem]) (.inr (by simp only [go_sem])) ?_
  simp only [go_sem]
def stillB (r : RD) : Bool := r.move.length == 0
end Go.AM

/-! ## CmR -/
namespace Go.AM
open Go Go.Proofs Go.RowKit

def badC (c : Int) : Bool := decide (c < -4) || decide (4 < c)
theorem small_fits {c : List Int} (h : SmallI 4 c) : c.any badC = false := by
  rw [List.any_eq_false]
  intro x hx
  have := h x hx
  unfold badC
  rw [decide_eq_false (by omega), decide_eq_false (by omega)]; simp
def ModOk (m : Int) : Prop := m = 0 ∨ 2 ≤ m ∧ m ≤ 8
def badV (low high v : Int) : Bool := (v != 1099511627776) && (decide (v < low) || decide (high < v))
def lowF (mod : Int) : Int := if 0 < mod then 0 else -1099511627776
def highF (mod : Int) : Int := if 0 < mod then mod - 1 else 1099511627775
/-- the values are right for a modulus -/
def valuesB (mod : Int) (l : List Int) : Bool := !l.any (badV (lowF mod) (highF mod))
def acheckF (a : AtomD) : Int := if valuesB a.mod a.values then 0 else 44
/-- the parts of an atom that are not the values are right -/
structure FormA (m : MD) (a : AtomD) : Prop where
  coefs : a.coefs.length = m.places.length
  small : SmallI 4 a.coefs
  mod : ModOk a.mod
  values : a.values.length = m.states.length
def acheckTree : Tr := .front 0 (.alt (.one 1 (.alt (.one 2 (.one 3 (.one 4 .done))) (.one 3 (.one 2 (.one 4 .done))))) (.one 3 (.one 1 (.one 2 (.one 4 .done)))))
end Go.AM

/-! ## CmS -/
namespace Go.AM
open Go Go.Proofs Go.RowKit

theorem mul_le6 {n : Nat} (h : n ≤ 6) : 4194304 * (n : Int) ≤ 25165824 := by omega
/-- an atom holds for a state and numbers -/
def holdsF (a : AtomD) (s : Nat) (v : List Int) : Bool := followsF a (sumF a.coefs v) s
/-- a configuration -/
def cfgC (s : Nat) (v : List Int) : CV := .mk 0 (.mk s [] :: v.map fun n => .mk n [])
theorem cfg_nums (v : List Int) : (v.map fun n => CV.mk n []).map CV.n = v := by rw [List.map_map]; exact List.map_id v
/-- rules whose lists have their lengths and small numbers -/
structure FineR (ns np : Nat) (r : RD) : Prop where
  right : RightR ns np r
  need : SmallI 1048576 r.need
  give : SmallI 1048576 r.give
theorem rule_fine {ns np : Nat} {r : RD} (h : ruleB ns np r = true) : FineR ns np r := by
  unfold ruleB changesB indexB smallB betweenB at h
  simp only [Bool.and_eq_true, decide_eq_true_eq, List.all_eq_true] at h
  obtain ⟨⟨⟨⟨h1, h2⟩, ⟨h3, h4⟩⟩, ⟨⟨⟨h5, h6⟩, h7⟩, h8⟩⟩, _⟩ := h
  refine ⟨⟨by omega, by omega, by omega, by omega, h5, h6⟩, fun x hx => ?_, fun x hx => ?_⟩
  · have := h7 x hx; omega
  · have := h8 x hx; omega
theorem effect_small {np : Nat} {c : List Int} {r : RD} {ns : Nat} (hr : FineR ns np r) (hl : c.length ≤ 6) (hc : SmallI 4 c) : -50331648 ≤ effectF c r ∧ effectF c r ≤ 50331648 := by
  have b1 := sum_small hc hr.give
  have b2 := sum_small hc hr.need
  have b3 := mul_le6 hl
  unfold effectF
  omega
/-- the error of a valid atom -/
def closedF (rules : List RD) (s0 : Nat) (v0 : List Int) (a : AtomD) : Int := if holdsF a s0 v0 then (if rules.all (keepsF a) then 0 else 41) else 42
theorem closed_bad {rules : List RD} {s0 : Nat} {v0 : List Int} {a : AtomD} {i : Nat} (h : i < rules.length) (h0 : holdsF a s0 v0 = true) (hb : keepsF a rules[i]! = false) : closedF rules s0 v0 a = 41 := by
  unfold closedF
  have : rules.all (keepsF a) = false := by rw [List.all_eq_false]; exact ⟨rules[i]!, mem_bangI h, by rw [hb]; simp⟩
  rw [h0, this]; rfl
theorem closed_ok {rules : List RD} {s0 : Nat} {v0 : List Int} {a : AtomD} (h0 : holdsF a s0 v0 = true) (h : ∀ i, i < rules.length → keepsF a rules[i]! = true) : closedF rules s0 v0 a = 0 := by
  unfold closedF
  have : rules.all (keepsF a) = true := by
    rw [List.all_eq_true]
    intro r hr
    obtain ⟨j, hj⟩ := List.getElem?_of_mem hr
    have hjl := (List.getElem?_eq_some_iff.1 hj).1
    have := h j hjl
    rw [getElem!_pos rules j hjl, (List.getElem?_eq_some_iff.1 hj).2] at this; exact this
  rw [h0, this]; rfl
end Go.AM

/-! ## CmT -/
namespace Go.AM
open Go Go.Proofs Go.RowKit

theorem values_bnd {mod : Int} {l : List Int} (hm : ModOk mod) (h : valuesB mod l = true) : InB 1099511627776 l := fun s => by
  by_cases hs : s < l.length
  · unfold valuesB at h
    simp only [Bool.not_eq_true', List.any_eq_false] at h
    have := h l[s]! (mem_bangI hs)
    unfold badV omegaI at *
    by_cases ho : l[s]! = 1099511627776
    · exact .inl ho
    · have ho' : (l[s]! != 1099511627776) = true := bne_iff_ne.2 ho
      rw [ho', Bool.true_and] at this
      simp only [Bool.or_eq_true, decide_eq_true_eq, not_or] at this
      unfold lowF highF ModOk at *
      right
      split at this <;> omega
  · have : l[s]! = 0 := by rw [getElem!_neg l s hs]; rfl
    rw [this]; right; omega
/-- a configuration that is right -/
structure GoodC (m : MD) (s : Nat) (v : List Int) : Prop where
  state : s < m.states.length
  len : v.length = m.places.length
  low : ∀ x ∈ v, 0 ≤ x ∧ x ≤ 1048576
theorem GoodC.small {m : MD} {s : Nat} {v : List Int} (h : GoodC m s v) : SmallI 1048576 v := fun x hx => by have := h.low x hx; omega
theorem GoodC.conf {m : MD} {s : Nat} {v : List Int} (h : GoodC m s v) : confB m.states.length m.places.length (cfgC s v) = true := by
  have h1 := h.state
  have a1 : (v.map fun n => CV.mk n []).all (fun k => decide (0 ≤ k.n) && decide (k.n ≤ 1048576) && k.kids.length == 0) = true := by
    rw [List.all_map, List.all_eq_true]
    intro n hn
    have := h.low n hn
    show (decide (0 ≤ n) && decide (n ≤ 1048576) && true) = true
    rw [decide_eq_true this.1, decide_eq_true this.2]; rfl
  have a2 : decide ((0 : Int) ≤ (s : Int)) = true := decide_eq_true (by omega)
  have a3 : decide ((s : Int) < (m.states.length : Int)) = true := decide_eq_true (by omega)
  have a4 : ((v.map fun n => CV.mk n []).length == m.places.length) = true := by rw [List.length_map, h.len]; simp
  show (((((((0 : Int) == 0) && decide ((0 : Int) ≤ (s : Int))) && decide ((s : Int) < (m.states.length : Int))) && true) && ((v.map fun n => CV.mk n []).length == m.places.length)) && (v.map fun n => CV.mk n []).all (fun k => decide (0 ≤ k.n) && decide (k.n ≤ 1048576) && k.kids.length == 0)) = true
  rw [a1, a2, a3, a4]; rfl
/-- a counter model without moves -/
structure PlainM (m : MD) (s0 : Nat) (v0 : List Int) : Prop where
  good : GoodM m
  still : m.rules.all stillB = true
  start : m.start = cfgC s0 v0
  conf : GoodC m s0 v0
theorem PlainM.fine {m : MD} {s0 : Nat} {v0 : List Int} (h : PlainM m s0 v0) : ∀ r ∈ m.rules, FineR m.states.length m.places.length r := fun r hr => rule_fine (h.good.rules r hr).1
end Go.AM

/-! ## CmU -/
namespace Go.AM
open Go Go.Proofs Go.RowKit

def vq (x : Int) : AV := .sc (.int .u64 x)
attribute [go_sem] vq
theorem rep_zero (n : Nat) : List.replicate n (AV.sc (.int .i64 0)) = (List.replicate n (0 : Int)).map vi := by simp [vi]
theorem leafAll_vi (l : List Int) : leafAll (l.map vi) = true := by simp [leafAll, vi, AV.leafy]
theorem setSeg_all {y : Int} {l m : List Int} {k : Nat} (hf : k + m.length ≤ l.length) (hl : ∀ j, j < k → l[j]! = y) (hm : ∀ x ∈ m, x = y) : ∀ j, j < k + m.length → (setSeg l k m)[j]! = y := by
  intro j hj
  rw [setSeg_eq _ _ _ hf]
  have hk : k ≤ l.length := by omega
  by_cases h : j < k
  · have h2 := hl j h
    rw [getElem!_pos l j (by omega)] at h2
    rw [List.append_assoc, getElem!_pos _ j (by simp; omega), List.getElem_append_left (by simp; omega), List.getElem_take]; exact h2
  · rw [getElem!_pos _ j (by simp; omega), List.getElem_append_left (by simp; omega), List.getElem_append_right (by simp; omega)]
    exact hm _ (List.getElem_mem _)
set_option maxRecDepth 100000 in
theorem con_clone (l : List Int) (h1 : 1 ≤ l.length) (h2 : l.length ≤ 1000000) : Con Tryz.prog 102 [vs 0 l] [] fun r _ => r = vs 2 l := by
  refine Con.intro Tryz.func102 rfl Tryz.ntmps102 Tryz.results102 (by kernel_rfl) (by simp) 0 (by simp) ?_
  cases l with
  | nil => simp at h1
  | cons x l =>
    simp only [List.length_cons] at h2
    simp only [go_sem]
    simp only [roomFor]
    omega
end Go.AM

/-! ## CrA -/
namespace Go.AM
open Go Go.Proofs Go.RowKit

set_option maxRecDepth 100000 in
theorem con_rbetween (x lo hi : Int) : Con Tryz.prog 72 [vi x, vi lo, vi hi] [] fun r _ => r = vb (betweenB x lo hi) := by
  refine Con.intro Tryz.func72 rfl Tryz.ntmps72 Tryz.results72 (by kernel_rfl) (by simp) 0 (by simp) ?_
  unfold betweenB
  by_cases h1 : lo ≤ x
  · by_cases h2 : x ≤ hi
    · simp only [go_sem, h1, h2, decide_true, Bool.and_true]
    · simp only [go_sem, h1, h2, decide_true, decide_false, Bool.and_false]
  · simp only [go_sem, h1, decide_false, Bool.false_and]
theorem between_true {x lo hi : Int} (h1 : lo ≤ x) (h2 : x ≤ hi) : betweenB x lo hi = true := by
  unfold betweenB; rw [decide_eq_true h1, decide_eq_true h2]; rfl
set_option maxRecDepth 100000 in
theorem con_rnumbersP (m : MD) (h : PreM m) : Con Tryz.prog 73 [vM m] [] fun r _ => r = vb true := by
  refine Con.intro Tryz.func73 rfl Tryz.ntmps73 Tryz.results73 (by kernel_rfl) (by simp) 0 (by simp) ?_
  have h1 := h.states; have h2 := h.places; have h3 := h.few
  have b1 := con_rbetween m.states.length 1 8
  have b2 := con_rbetween m.places.length 1 6
  have b3 := con_rbetween 0 0 0
  rw [between_true (by omega) (by omega)] at b1 b2
  rw [between_true (by omega) (by omega)] at b3
  have h4 : ¬ ((12 : Int) < m.rules.length) := by omega
  unfold vM cM
  rw [h.kind, h.letters, h.levels, h.age]
  simp only [go_sem, vss, List.length_map]
  refine CallU.free b1 (by simp only [go_sem]) (by simp only [go_sem]) ?_
  rintro r bx rfl
  simp only [go_sem, List.length_map]
  refine CallU.free b2 (by simp only [go_sem]) (by simp only [go_sem]) ?_
  rintro r bx rfl
  simp only [go_sem, List.length_map, h4, List.length_nil]
  refine CallU.free b3 (by simp only [go_sem]) (by simp only [go_sem]) ?_
  rintro r bx rfl
  simp only [go_sem]
  refine CallU.free b3 (by simp only [go_sem]) (by simp only [go_sem]) ?_
  rintro r bx rfl
  simp only [go_sem]
theorem con_rnumbers (m : MD) (h : GoodM m) : Con Tryz.prog 73 [vM m] [] fun r _ => r = vb true :=
  con_rnumbersP m h.pre
set_option maxRecDepth 100000 in
theorem con_rranksP (m : MD) (h : PreM m) : Con Tryz.prog 74 [vM m] [] fun r _ => r = vb true := by
  refine Con.intro Tryz.func74 rfl Tryz.ntmps74 Tryz.results74 (by kernel_rfl) (by simp) 0 (by simp) ?_
  unfold vM cM
  rw [h.kind, h.ranks]
  simp only [go_sem, List.map_nil, List.length_nil]
theorem con_rranks (m : MD) (h : GoodM m) : Con Tryz.prog 74 [vM m] [] fun r _ => r = vb true :=
  con_rranksP m h.pre
set_option maxRecDepth 100000 in
theorem con_rletter (c : UInt8) : Con Tryz.prog 174 [u8v c] [] fun r _ => r = vb (partB c) := by
  refine Con.intro Tryz.func174 rfl Tryz.ntmps174 Tryz.results174 (by kernel_rfl) (by simp) 0 (by simp) ?_
  unfold partB
  rw [u8_eq (k := 95) (c := c) (n := 95) rfl, letterB_eq, digitB_eq]
  by_cases h1 : (97 : Int) ≤ (c.toNat : Int) <;> by_cases h2 : (c.toNat : Int) ≤ 122 <;> by_cases h3 : (48 : Int) ≤ (c.toNat : Int) <;> by_cases h4 : (c.toNat : Int) ≤ 57 <;>
    (simp only [go_sem, h1, h2, h3, h4, decide_true, decide_false, Bool.and_true, Bool.and_false, Bool.true_or, Bool.or_true, Bool.false_or, Bool.or_false]; all_goals simp)
set_option maxRecDepth 100000 in
theorem con_rword (s : ByteArray) (hw : wordB s = true) : Con Tryz.prog 126 [vStr s] [] fun r _ => r = vb true := by
  refine Con.intro Tryz.func126 rfl Tryz.ntmps126 Tryz.results126 (by kernel_rfl) (by simp) 0 (by simp) ?_
  unfold wordB at hw
  rw [ByteArray.toList_eq] at hw
  simp only [Bool.and_eq_true, decide_eq_true_eq, List.all_eq_true] at hw
  obtain ⟨⟨⟨h1, h2⟩, h3⟩, h4⟩ := hw
  have hp : ∀ j, j < s.size → partB s.data.toList[j]! = true := fun j hj => h4 _ (by
    have h5 : j < s.data.toList.length := by rw [ba_len]; exact hj
    rw [getElem!_pos _ j h5]; exact List.getElem_mem h5)
  have e0 : s.get! 0 = s.data.toList[0]! := by
    have h5 : 0 < s.data.toList.length := by rw [ba_len]; exact h1
    rw [getElem!_pos s.data.toList 0 h5, Array.getElem_toList]
    show s.data[0]! = _
    rw [getElem!_pos s.data 0 h1]
  rw [e0, letterB_eq, Bool.and_eq_true, decide_eq_true_eq, decide_eq_true_eq] at h3
  simp only [go_sem]
  refine LoopK.intro (fun i : Nat => ⟨33, [(0, vStr s), (3, vi i)], []⟩) (fun i => s.size - i) (fun i => i ≤ s.size) 0 (by omega) ?_ ?_
  · simp only [go_sem]
  rintro i hi
  by_cases h : i < s.size
  · have hg := ba_get h
    have hw : IntKind.i64.wrap (i + 1) = i + 1 := wrap_in (by omega) (by omega)
    have hl := con_rletter s.data.toList[i]!
    rw [hp i h] at hl
    simp only [go_sem, h, hg]
    refine CallU.free hl (by simp only [go_sem]) (by simp only [go_sem]) ?_
    rintro r bx rfl
    simp only [go_sem, hw]
    refine roundK.intro (i + 1) (by omega) (by omega) ?_
    simp only [go_sem]
  · have hg := ba_get h1
    have g1 : (1 : Int) ≤ (s.size : Int) := by omega
    have g2 : (s.size : Int) ≤ 12 := by omega
    simp only [go_sem, h, hg, g1, g2, h3.1, h3.2]
theorem ba_eq {a b : ByteArray} : (a.toList == b.toList) = (a.data.toList == b.data.toList) := by rw [ByteArray.toList_eq, ByteArray.toList_eq]
end Go.AM

/-! ## CrB -/
namespace Go.AM
open Go Go.Proofs Go.RowKit

theorem keyword_no {s : ByteArray} (h : keywordB s = false) {i : Nat} (hi : i < kwL.length) : (kwL[i]!.toList == s.toList) = false := by
  unfold keywordB at h
  rw [List.any_eq_false] at h
  have := h kwL[i]! (mem_bangI hi)
  rw [Bool.not_eq_true] at this
  rw [beq_eq_false_iff_ne] at this ⊢
  exact fun e => this e.symm
theorem kwL_len : kwL.length = 18 := rfl
set_option maxRecDepth 100000 in
theorem con_rkeyword (s : ByteArray) (hk : keywordB s = false) : Con Tryz.prog 127 [vStr s] [] fun r _ => r = vb false := by
  refine Con.intro Tryz.func127 rfl Tryz.ntmps127 Tryz.results127 (by kernel_rfl) (by simp) 0 (by simp) ?_
  simp only [go_sem]
  refine LoopK.intro (fun i : Nat => ⟨18, [(0, vStr s), (3, .sl 384 1 (kwL.map vStr)), (4, vi i)], []⟩) (fun i => 18 - i) (fun i => i ≤ 18) 0 (by omega) ?_ ?_
  · simp only [go_sem, kwL, List.map_cons, List.map_nil]
  rintro i hi
  by_cases h : i < 18
  · have hl : i < kwL.length := by rw [kwL_len]; exact h
    have hg := getStr hl
    have hw : IntKind.i64.wrap (i + 1) = i + 1 := wrap_in (by omega) (by omega)
    have hn := keyword_no hk hl
    simp only [go_sem, kwL_len, h, hg, hn, hw]
    refine roundK.intro (i + 1) (by omega) (by omega) ?_
    simp only [go_sem]
  · simp only [go_sem, kwL_len, h]
set_option maxRecDepth 100000 in
theorem con_rlist (l : List Int) (n : Nat) (lo hi : Int) (hn : l.length = n) (h6 : n ≤ 1000000) (hb : ∀ x ∈ l, betweenB x lo hi = true) : Con Tryz.prog 128 [vs 0 l, vi n, vi lo, vi hi] [] fun r _ => r = vb true := by
  refine Con.intro Tryz.func128 rfl Tryz.ntmps128 Tryz.results128 (by kernel_rfl) (by simp) 0 (by simp) ?_
  simp only [go_sem]
  refine LoopK.intro (fun i : Nat => ⟨28, [(0, vs 0 l), (1, vi n), (2, vi lo), (3, vi hi), (9, vi i)], []⟩) (fun i => l.length - i) (fun i => i ≤ l.length) 0 (by omega) ?_ ?_
  · simp only [go_sem]
  rintro i hi2
  by_cases h : i < l.length
  · have hg := getv h
    have hw : IntKind.i64.wrap (i + 1) = i + 1 := wrap_in (by omega) (by omega)
    have hc := con_rbetween l[i]! lo hi
    rw [hb _ (mem_bangI h)] at hc
    simp only [go_sem, h, hg]
    refine CallU.free hc (by simp only [go_sem]) (by simp only [go_sem]) ?_
    rintro r bx rfl
    simp only [go_sem, hw]
    refine roundK.intro (i + 1) (by omega) (by omega) ?_
    simp only [go_sem]
  · subst hn
    simp only [go_sem, h]
def namesTree : Tr := .front 0 (.front 3 (.front 6 (.alt (.one 1 (.alt (.one 2 (.alt (.one 4 (.alt (.one 5 (.one 7 (.one 8 (.one 9 .done)))) (.one 7 (.one 5 (.one 8 (.one 9 .done)))))) (.one 7 (.one 4 (.one 5 (.one 8 (.one 9 .done))))))) (.alt (.one 4 (.alt (.one 2 (.alt (.one 5 (.one 7 (.one 8 (.one 9 .done)))) (.one 7 (.one 5 (.one 8 (.one 9 .done)))))) (.one 7 (.one 2 (.one 5 (.one 8 (.one 9 .done))))))) (.one 7 (.alt (.one 2 (.one 4 (.one 5 (.one 8 (.one 9 .done))))) (.one 4 (.one 2 (.one 5 (.one 8 (.one 9 .done)))))))))) (.alt (.one 4 (.alt (.one 1 (.alt (.one 2 (.alt (.one 5 (.one 7 (.one 8 (.one 9 .done)))) (.one 7 (.one 5 (.one 8 (.one 9 .done)))))) (.one 7 (.one 2 (.one 5 (.one 8 (.one 9 .done))))))) (.one 7 (.one 1 (.one 2 (.one 5 (.one 8 (.one 9 .done)))))))) (.one 7 (.alt (.one 1 (.alt (.one 2 (.one 4 (.one 5 (.one 8 (.one 9 .done))))) (.one 4 (.one 2 (.one 5 (.one 8 (.one 9 .done))))))) (.one 4 (.one 1 (.one 2 (.one 5 (.one 8 (.one 9 .done))))))))))))
theorem names_at {l : List ByteArray} (h : namesB l = true) {i : Nat} (hi : i < l.length) : wordB l[i]! = true ∧ keywordB l[i]! = false ∧ ∀ k, k < i → (l[k]!.toList == l[i]!.toList) = false := by
  unfold namesB at h
  have h1 := List.all_eq_true.1 h i (List.mem_range.2 hi)
  unfold okN at h1
  simp only [Bool.and_eq_true, Bool.not_eq_true'] at h1
  refine ⟨h1.1.1, h1.1.2, fun k hk => ?_⟩
  have h2 := h1.2
  rw [ba_eq, beq_eq_false_iff_ne]
  intro e
  have h3 : l[i]!.data.toList ∈ (l.take i).map fun s => s.data.toList := by
    refine List.mem_map.2 ⟨l[k]!, ?_, e⟩
    rw [getElem!_pos l k (by omega)]
    exact List.mem_of_getElem? (i := k) (by rw [List.getElem?_take, if_pos hk]; simp)
  rw [List.contains_iff_mem.2 h3] at h2
  cases h2
set_option maxRecDepth 100000 in
set_option maxHeartbeats 4000000 in
theorem con_rnamesP (m : MD) (h : PreM m) : Con Tryz.prog 75 [vM m] [] fun r _ => r = vb true := by
  refine Con.intro Tryz.func75 rfl Tryz.ntmps75 Tryz.results75 (by kernel_rfl) (by simp) 0 (by simp) ?_
  have h1 := h.states; have h2 := h.places; have h3 := h.few
  have r1 : roomFor m.states.length 16 := by simp only [roomFor]; omega
  have r2 : roomFor (m.states.length + m.places.length) 16 := by simp only [roomFor]; omega
  have e0 : namesTo m 0 = m.states ++ m.places := by rw [namesTo_zero, h.letters]; simp
  unfold vM cM
  simp only [go_sem, vss, h.letters, List.map_nil]
  refine DrawK.meet ⟨65, [(1, .pb 0 0), (2, vb false), (3, .sl 640 1 ((namesTo m 0).map vStr))], [[vi m.kind, .sl 0 1 (m.states.map vStr), .sl 0 1 (m.places.map vStr), .sl 0 1 [], vs 0 m.ranks, vi m.levels, vi m.age, .sl 0 14 (m.rules.map vRule), vi m.start.n, .sl 0 2 (m.start.kids.map vV)]]⟩ ?_ ?_
  · refine DrawK.tree namesTree mixed (by kernel_rfl) ?_
    unfold namesTree
    rw [e0, List.map_append]
    repeat' (first | with_reducible apply andK_mk | simp only [go_sem, List.length_map, List.length_append, List.append_nil, r1, r2])
  · simp only [go_sem]
    refine LoopK.intro (fun i : Nat => ⟨65, [(1, .pb 0 0), (2, vb false), (3, .sl 640 1 ((namesTo m i).map vStr)), (4, vi i)], [[vi m.kind, .sl 0 1 (m.states.map vStr), .sl 0 1 (m.places.map vStr), .sl 0 1 [], vs 0 m.ranks, vi m.levels, vi m.age, .sl 0 14 (m.rules.map vRule), vi m.start.n, .sl 0 2 (m.start.kids.map vV)]]⟩)
      (fun i => m.rules.length - i) (fun i => i ≤ m.rules.length) 0 (by omega) ?_ ?_
    · simp only [go_sem]
    rintro i hi
    have hn := namesTo_len (m := m) (i := i)
    have hL : (namesOf m).length ≤ 1000 := by unfold namesOf; simp only [List.length_append, List.length_map, h.letters, List.length_nil]; omega
    by_cases hlt : i < m.rules.length
    · have hg := getRule hlt
      have hw : IntKind.i64.wrap (i + 1) = i + 1 := wrap_in (by omega) (by omega)
      have e := namesTo_succ hlt
      have hr : roomFor ((namesTo m i).length + 1) 16 := by simp only [roomFor]; omega
      simp only [go_sem, hlt, hg, hw, hr]
      refine roundK.intro (i + 1) (by omega) (by omega) ?_
      simp only [go_sem, e, List.map_append, List.map_cons, List.map_nil]
    obtain rfl : i = m.rules.length := by omega
    rw [namesTo_all]
    simp only [go_sem, hlt]
    have hnm := h.names
    generalize namesOf m = l at *
    refine LoopK.intro (fun i : Nat => ⟨65, [(1, .pb 0 0), (2, vb false), (3, .sl 640 1 (l.map vStr)), (5, vi i)], [[vi m.kind, .sl 0 1 (m.states.map vStr), .sl 0 1 (m.places.map vStr), .sl 0 1 [], vs 0 m.ranks, vi m.levels, vi m.age, .sl 0 14 (m.rules.map vRule), vi m.start.n, .sl 0 2 (m.start.kids.map vV)]]⟩)
      (fun i => l.length - i) (fun i => i ≤ l.length) 0 (by omega) ?_ ?_
    · simp only [go_sem]
    rintro i hi
    by_cases hlt2 : i < l.length
    · obtain ⟨a1, a2, a3⟩ := names_at hnm hlt2
      have hg := getStr hlt2
      have hw : IntKind.i64.wrap (i + 1) = i + 1 := wrap_in (by omega) (by omega)
      simp only [go_sem, hlt2, hg]
      refine CallU.free (con_rword l[i]! a1) (by simp only [go_sem]) (by simp only [go_sem]) ?_
      rintro r bx rfl
      simp only [go_sem, hlt2, hg]
      refine CallU.free (con_rkeyword l[i]! a2) (by simp only [go_sem]) (by simp only [go_sem]) ?_
      rintro r bx rfl
      simp only [go_sem]
      refine LoopK.intro (fun k : Nat => ⟨65, [(1, .pb 0 0), (2, vb false), (3, .sl 640 1 (l.map vStr)), (5, vi i), (6, vi k)], [[vi m.kind, .sl 0 1 (m.states.map vStr), .sl 0 1 (m.places.map vStr), .sl 0 1 [], vs 0 m.ranks, vi m.levels, vi m.age, .sl 0 14 (m.rules.map vRule), vi m.start.n, .sl 0 2 (m.start.kids.map vV)]]⟩)
        (fun k => i - k) (fun k => k ≤ i) 0 (by omega) ?_ ?_
      · simp only [go_sem]
      rintro k hk
      by_cases hki : k < i
      · have hkl : k < l.length := by omega
        have hgk := getStr hkl
        have hwk : IntKind.i64.wrap (k + 1) = k + 1 := wrap_in (by omega) (by omega)
        have hne := a3 k hki
        simp only [go_sem, hki]
        refine DrawK.walk 9 mixed (by kernel_rfl) ?_
        simp only [go_sem, hlt2, hkl, hg, hgk, hne, hwk]
        refine roundK.intro (k + 1) (by omega) (by omega) ?_
        simp only [go_sem]
      · simp only [go_sem, hki, hw]
        refine roundK.intro (i + 1) (by omega) (by omega) ?_
        simp only [go_sem]
    · simp only [go_sem, hlt2]
theorem con_rnames (m : MD) (h : GoodM m) : Con Tryz.prog 75 [vM m] [] fun r _ => r = vb true :=
  con_rnamesP m h.pre
end Go.AM
