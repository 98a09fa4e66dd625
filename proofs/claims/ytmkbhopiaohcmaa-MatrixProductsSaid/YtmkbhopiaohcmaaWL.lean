/-
  The walk of MatrixProducts.
-/
import Derived.Test.YtmkbhopiaohcmaaWK
import Derived.Test.YtmkbhopiaohcmaaW8
namespace Go.AM
open Go Go.Proofs Go.RowKit

theorem check_small {m : List (List Int)} {n c : Nat} (hn : m.length = n) (h1 : 1 ≤ n) (h2 : n ≤ 4) (h3 : 1 ≤ c) (h4 : c ≤ 4) (hm : ∀ row ∈ m, RowOk c row) : checkF m = 0 := by
  have h0 : m[0]!.length = c := (hm _ (by simp [show 0 < m.length by omega])).1
  have hbad : m.any (badRow c) = false := by
    rw [List.any_eq_false]
    intro row hr
    obtain ⟨g1, g2⟩ := hm row hr
    have : row.any lawBad = false := by
      rw [List.any_eq_false]
      intro x hx
      have := g2 x hx
      simp only [lawBad, Bool.or_eq_true, decide_eq_true_eq]; omega
    simp [badRow, g1, this]
  unfold checkF
  rw [h0, if_neg (by omega), if_neg (by omega), hbad]; rfl

def Two (c : Nat) (row : List Int) : Prop := row.length = c ∧ ∀ x ∈ row, -2 ≤ x ∧ x ≤ 2
theorem Two.ok {c : Nat} {row : List Int} (h : Two c row) : RowOk c row := ⟨h.1, fun x hx => by have := h.2 x hx; omega⟩
theorem small_two {m : List (List Int)} {c : Nat} (h : ∀ row ∈ m, RowOk c row) : ∀ row ∈ smallF m, Two c row := by
  intro row hr
  simp only [smallF, List.mem_map] at hr
  obtain ⟨r, hr, rfl⟩ := hr
  refine ⟨by simp [(h r hr).1], fun x hx => ?_⟩
  simp only [List.mem_map] at hx
  obtain ⟨y, _, rfl⟩ := hx
  simp only [clip2]; omega

theorem mult_small {A B : List (List Int)} {n r c : Nat} (hA : A.length = n) (h1 : 1 ≤ n) (h2 : n ≤ 4) (hB : B.length = r) (h3 : 1 ≤ r) (h4 : r ≤ 4) (h5 : 1 ≤ c) (h6 : c ≤ 4) (hA2 : ∀ row ∈ A, Two r row) (hB2 : ∀ row ∈ B, Two c row) :
    multR A B = (multF A B, 0) := by
  have e1 := check_small hA h1 h2 h3 h4 fun row hr => (hA2 row hr).ok
  have e2 := check_small hB h3 h4 h5 h6 fun row hr => (hB2 row hr).ok
  have h0 : A[0]!.length = r := (hA2 _ (by simp [show 0 < A.length by omega])).1
  unfold multR
  rw [e1, e2, h0, hB]; simp

/-! ### sums -/
def sumN (f : Nat → Int) : Nat → Int
  | 0 => 0
  | k + 1 => sumN f k + f k
theorem sumN_congr {f g : Nat → Int} : ∀ k, (∀ i, i < k → f i = g i) → sumN f k = sumN g k
  | 0, _ => rfl
  | k + 1, h => by simp only [sumN, sumN_congr k (fun i hi => h i (by omega)), h k (by omega)]
theorem sumN_add {f g : Nat → Int} : ∀ k, sumN (fun i => f i + g i) k = sumN f k + sumN g k
  | 0 => rfl
  | k + 1 => by simp only [sumN, sumN_add k]; omega
theorem sumN_mul {f : Nat → Int} {a : Int} : ∀ k, sumN (fun i => a * f i) k = a * sumN f k
  | 0 => by simp [sumN]
  | k + 1 => by simp only [sumN, sumN_mul k, Int.mul_add]
theorem sumN_zero : ∀ k, sumN (fun _ => 0) k = 0
  | 0 => rfl
  | k + 1 => by simp only [sumN, sumN_zero k]; rfl
theorem dotZ_sum {a b : List Int} : ∀ k, dotZ a b k = sumN (fun i => a[i]! * b[i]!) k
  | 0 => rfl
  | k + 1 => by simp only [dotZ, sumN, dotZ_sum k]
/-- the sums in the other order -/
theorem sum_swap {a v : List Int} {B : Nat → List Int} {c : Nat} : ∀ r, sumN (fun k => sumN (fun t => a[t]! * (B t)[k]!) r * v[k]!) c = sumN (fun t => a[t]! * sumN (fun k => (B t)[k]! * v[k]!) c) r
  | 0 => by simp only [sumN, Int.zero_mul]; exact sumN_zero c
  | r + 1 => by
    simp only [sumN]
    rw [← sum_swap r, ← sumN_mul, ← sumN_add]
    refine sumN_congr c fun k _ => ?_
    rw [Int.add_mul, Int.mul_assoc]
theorem dotN_comm {a b : List Int} : ∀ k, dotN a b k = dotN b a k
  | 0 => rfl
  | k + 1 => by simp only [dotN, dotN_comm k, Int.mul_comm]

theorem mapAt {α β : Type} [Inhabited α] [Inhabited β] {f : α → β} {l : List α} {i : Nat} (h : i < l.length) : (l.map f)[i]! = f l[i]! := by simp [h]
theorem Two.at {c : Nat} {row : List Int} (h : Two c row) {i : Nat} (hi : i < c) : -2 ≤ row[i]! ∧ row[i]! ≤ 2 := h.2 _ (by rw [getElem!_pos row i (by rw [h.1]; exact hi)]; exact List.getElem_mem _)
/-- small sums -/
theorem sumN_bound {f : Nat → Int} {b : Int} : ∀ k : Nat, (∀ i, i < k → -b ≤ f i ∧ f i ≤ b) → -(k * b) ≤ sumN f k ∧ sumN f k ≤ k * b
  | 0, _ => by simp [sumN]
  | k + 1, h => by
    have h1 := sumN_bound k fun i hi => h i (by omega)
    have h2 := h k (by omega)
    simp only [sumN]
    have e : ((k + 1 : Nat) : Int) * b = k * b + b := by rw [Int.natCast_add, Int.add_mul]; simp
    rw [e]; omega

structure Sizes (A B : List (List Int)) (v : List Int) (n r c : Nat) : Prop where
  al : A.length = n
  bl : B.length = r
  vl : v.length = c
  n4 : n ≤ 4
  r4 : r ≤ 4
  c4 : c ≤ 4
  a2 : ∀ row ∈ A, Two r row
  b2 : ∀ row ∈ B, Two c row
  v5 : ∀ x ∈ v, 0 ≤ x ∧ x ≤ 5

theorem Sizes.a {A B : List (List Int)} {v : List Int} {n r c : Nat} (h : Sizes A B v n r c) {i : Nat} (hi : i < n) : Two r A[i]! := h.a2 _ (mem_at (by rw [h.al]; exact hi))
theorem Sizes.b {A B : List (List Int)} {v : List Int} {n r c : Nat} (h : Sizes A B v n r c) {i : Nat} (hi : i < r) : Two c B[i]! := h.b2 _ (mem_at (by rw [h.bl]; exact hi))
theorem Sizes.v {A B : List (List Int)} {v : List Int} {n r c : Nat} (h : Sizes A B v n r c) {i : Nat} (hi : i < c) : 0 ≤ v[i]! ∧ v[i]! ≤ 5 := h.v5 _ (mem_at (by rw [h.vl]; exact hi))

/-- an entry of the product -/
theorem prod_at {A B : List (List Int)} {v : List Int} {n r c : Nat} (h : Sizes A B v n r c) (hr : 1 ≤ r) {i j : Nat} (hi : i < n) (hj : j < c) :
    (multF A B)[i]![j]! = sumN (fun t => A[i]![t]! * B[t]![j]!) r ∧ -16 ≤ (multF A B)[i]![j]! ∧ (multF A B)[i]![j]! ≤ 16 := by
  have hb0 : B[0]!.length = c := (h.b (by omega)).1
  have e : (multF A B)[i]![j]! = dotF A[i]! (B.map fun row => row[j]!) := by
    simp only [multF]
    rw [mapAt (by rw [h.al]; exact hi), mapAt (by rw [List.length_range]; omega)]
    have : (List.range B[0]!.length)[j]! = j := by rw [getElem!_pos _ _ (by rw [List.length_range]; omega)]; simp
    rw [this]
  have hc : ∀ t, t < r → (B.map fun row => row[j]!)[t]! = B[t]![j]! := fun t ht => by rw [mapAt (by rw [h.bl]; exact ht)]
  have hd := dotN_eq (a := A[i]!) (b := B.map fun row => row[j]!) r (by have := h.r4; omega) (fun t ht => by have := (h.a hi).at ht; omega) (fun t ht => by rw [hc t ht]; have := (h.b ht).at hj; omega)
  have e2 : dotF A[i]! (B.map fun row => row[j]!) = sumN (fun t => A[i]![t]! * B[t]![j]!) r := by
    unfold dotF
    rw [(h.a hi).1, hd.1, dotZ_sum]
    exact sumN_congr r fun t ht => by rw [hc t ht]
  have hb := sumN_bound (f := fun t => A[i]![t]! * B[t]![j]!) (b := 4) r fun t ht => by
    have h1 := (h.a hi).at ht
    have h2 := (h.b ht).at hj
    exact mul_bound h1.1 h1.2 h2.1 h2.2
  have := h.r4
  rw [e, e2]
  exact ⟨rfl, by omega, by omega⟩

theorem prods {A B : List (List Int)} {v : List Int} {n r c : Nat} (h : Sizes A B v n r c) (hr : 1 ≤ r) {i : Nat} (hi : i < n) :
    dotN (multF A B)[i]! v c = dotN A[i]! (B.map fun row => dotF row v) r := by
  have hw : ∀ t, t < r → (B.map fun row => dotF row v)[t]! = sumN (fun k => B[t]![k]! * v[k]!) c ∧ -40 ≤ (B.map fun row => dotF row v)[t]! ∧ (B.map fun row => dotF row v)[t]! ≤ 40 := fun t ht => by
    rw [mapAt (by rw [h.bl]; exact ht)]
    have hd := dotN_eq (a := B[t]!) (b := v) c (by have := h.c4; omega) (fun k hk => by have := (h.b ht).at hk; omega) (fun k hk => by have := h.v hk; omega)
    have hb := sumN_bound (f := fun k => B[t]![k]! * v[k]!) (b := 10) c fun k hk => by
      have h1 := (h.b ht).at hk
      have h2 := h.v hk
      exact mul_bound h1.1 h1.2 (by omega) h2.2
    have := h.c4
    unfold dotF
    rw [(h.b ht).1, hd.1, dotZ_sum]
    exact ⟨rfl, by omega, by omega⟩
  have d1 := (dotN_eq (a := (multF A B)[i]!) (b := v) c (by have := h.c4; omega) (fun k hk => by have := (prod_at h hr hi hk).2; omega) (fun k hk => by have := h.v hk; omega)).1
  have d2 := (dotN_eq (a := A[i]!) (b := B.map fun row => dotF row v) r (by have := h.r4; omega) (fun t ht => by have := (h.a hi).at ht; omega) (fun t ht => by have := (hw t ht).2; omega)).1
  rw [d1, d2, dotZ_sum, dotZ_sum, sumN_congr (g := fun k => sumN (fun t => A[i]![t]! * B[t]![k]!) r * v[k]!) c (fun k hk => by rw [(prod_at h hr hi hk).1]), sum_swap (B := fun t => B[t]!) r]
  exact sumN_congr r fun t ht => by rw [(hw t ht).1]

theorem trans_two {A : List (List Int)} {n r : Nat} (hA : A.length = n) (h0 : A[0]!.length = r) (h : ∀ row ∈ A, Two r row) : ∀ row ∈ transF A, Two n row := by
  intro row hr
  simp only [transF, List.mem_map, List.mem_range] at hr
  obtain ⟨j, hj, rfl⟩ := hr
  refine ⟨by simp [hA], fun x hx => ?_⟩
  simp only [List.mem_map] at hx
  obtain ⟨y, hy, rfl⟩ := hx
  exact (h y hy).at (by omega)
theorem trans_small {A : List (List Int)} {n r : Nat} (hA : A.length = n) (h1 : 1 ≤ n) (h2 : n ≤ 4) (h3 : 1 ≤ r) (h4 : r ≤ 4) (h : ∀ row ∈ A, Two r row) : transR A = (transF A, 0) := by
  unfold transR
  rw [check_small hA h1 h2 h3 h4 fun row hr => (h row hr).ok]; simp
theorem rangeAt {n j : Nat} (h : j < n) : (List.range n)[j]! = j := by rw [getElem!_pos _ _ (by rw [List.length_range]; exact h)]; simp

/-- the product of the transposed is the transposed product -/
theorem trans_prod {A B : List (List Int)} {v : List Int} {n r c : Nat} (h : Sizes A B v n r c) (hr : 1 ≤ r) {i j : Nat} (hi : i < n) (hj : j < c) :
    (multF (transF B) (transF A))[j]![i]! = (multF A B)[i]![j]! := by
  have hA0 : A[0]!.length = r := (h.a (by omega)).1
  have hB0 : B[0]!.length = c := (h.b (by omega)).1
  have hT0 : (transF A)[0]!.length = n := by
    simp only [transF]
    rw [mapAt (by rw [List.length_range, hA0]; omega), List.length_map, h.al]
  have e1 : (multF (transF B) (transF A))[j]![i]! = dotF (B.map fun row => row[j]!) ((transF A).map fun row => row[i]!) := by
    have hl : j < (transF B).length := by simp only [transF, List.length_map, List.length_range]; omega
    have hb : (transF B)[j]! = B.map fun row => row[j]! := by
      simp only [transF]
      rw [mapAt (by rw [List.length_range]; omega), rangeAt (by omega)]
    rw [multF, mapAt hl, mapAt (by rw [List.length_range, hT0]; exact hi), rangeAt (by omega), hb]
  have e2 : (multF A B)[i]![j]! = dotF A[i]! (B.map fun row => row[j]!) := by
    rw [multF, mapAt (by rw [h.al]; exact hi), mapAt (by rw [List.length_range]; omega), rangeAt (by omega)]
  have e3 : ((transF A).map fun row => row[i]!) = A[i]! := by
    simp only [transF, List.map_map]
    apply List.ext_getElem?
    intro t
    have hai := (h.a hi).1
    by_cases ht : t < r
    · rw [List.getElem?_map, List.getElem?_range (by omega)]
      simp only [Option.map_some, Function.comp]
      rw [mapAt (by rw [h.al]; exact hi), getElem!_pos A[i]! t (by omega), List.getElem?_eq_getElem (by omega)]
    · rw [List.getElem?_eq_none (by rw [List.length_map, List.length_range]; omega), List.getElem?_eq_none (by omega)]
  rw [e1, e2, e3]
  unfold dotF
  rw [List.length_map, h.bl, (h.a hi).1]
  exact dotN_comm r

set_option maxRecDepth 100000 in
set_option maxHeartbeats 4000000 in
theorem con_products (l : List Int) : Con Try.prog 7 [vs 0 l] [] fun r _ => r = .sc (.bool true) := by
  refine Con.intro Try.func7 rfl Try.ntmps7 Try.results7 (by kernel_rfl) (by simp) 0 (by simp) ?_
  simp only [go_sem]
  refine CallU.free awake (by simp only [go_sem]) (by simp only [go_sem]) ?_
  rintro r bx rfl
  simp only [go_sem]
  refine CallU.free (con_few l 0 (by omega)) (by simp only [go_sem]) (by simp only [go_sem]) ?_
  rintro r bx rfl
  by_cases hf : ¬ l.length ≤ 400
  · simp only [go_sem, hf]
    refine CallU.free awake (by simp only [go_sem]) (by simp only [go_sem]) ?_
    rintro r bx rfl
    simp only [go_sem]
  have hf : l.length ≤ 400 := by omega
  have hl : l.length ≤ 140737488355328 := by omega
  simp only [go_sem, hf]
  refine CallU.news (bx0 := []) (con_new l) (by simp only [go_sem]) (by simp only [go_sem]) (by simp only [go_sem]) (by simp only [go_sem]) (by simp only [go_sem]) ?_
  rintro r bx ⟨rfl, rfl⟩
  simp only [go_sem]
  refine CallU.boxes (i := 0) (is := []) (bx0 := [deckA l 0 11400714819323198485]) (con_next l 0 11400714819323198485 4 (by omega) hl (by omega)) (by simp only [go_sem]) (by simp only [go_sem]) (by simp only [go_sem]) (by simp only [go_sem]) (by simp only [go_sem]) ?_
  rintro r bx ⟨v1, a1, s1, rfl, p1, p2, p3, rfl⟩
  obtain ⟨n, hn, hn1, hn4⟩ : ∃ n : Nat, IntKind.i64.wrap (1 + v1) = n ∧ 1 ≤ n ∧ n ≤ 4 := ⟨(1 + v1).toNat, by rw [wrap_in (by omega) (by omega)]; omega, by omega, by omega⟩
  simp only [go_sem, hn]
  refine CallU.boxes (i := 0) (is := []) (bx0 := [deckA l a1 s1]) (con_next l a1 s1 4 p3 hl (by omega)) (by simp only [go_sem]) (by simp only [go_sem]) (by simp only [go_sem]) (by simp only [go_sem]) (by simp only [go_sem]) ?_
  rintro r bx ⟨v2, a2, s2, rfl, q1, q2, q3, rfl⟩
  obtain ⟨r, hr, hr1, hr4⟩ : ∃ c : Nat, IntKind.i64.wrap (1 + v2) = c ∧ 1 ≤ c ∧ c ≤ 4 := ⟨(1 + v2).toNat, by rw [wrap_in (by omega) (by omega)]; omega, by omega, by omega⟩
  simp only [go_sem, hr]
  refine CallU.boxes (i := 0) (is := []) (bx0 := [deckA l a2 s2]) (con_next l a2 s2 4 q3 hl (by omega)) (by simp only [go_sem]) (by simp only [go_sem]) (by simp only [go_sem]) (by simp only [go_sem]) (by simp only [go_sem]) ?_
  rintro _ bx ⟨v3, a3, s3, rfl, t1, t2, t3, rfl⟩
  obtain ⟨c, hc, hc1, hc4⟩ : ∃ c : Nat, IntKind.i64.wrap (1 + v3) = c ∧ 1 ≤ c ∧ c ≤ 4 := ⟨(1 + v3).toNat, by rw [wrap_in (by omega) (by omega)]; omega, by omega, by omega⟩
  simp only [go_sem, hc]
  refine CallU.boxes (i := 0) (is := []) (bx0 := [deckA l a3 s3]) (con_matrixT l a3 s3 n r t3 hl (by omega) (by omega)) (by simp only [go_sem]) (by simp only [go_sem]) (by simp only [go_sem]) (by simp only [go_sem]) (by simp only [go_sem]) ?_
  rintro _ bx ⟨ma, a4, s4, rfl, m1, m2, m3, rfl⟩
  simp only [go_sem]
  refine CallU.lend (con_smallM ma (by omega) (fun y hy => by have := (m2 y hy).1; omega)) (by simp only [go_sem]) (by simp only [go_sem]) ?_
  rintro _ rfl
  simp only [go_sem]
  refine CallU.boxes (i := 0) (is := []) (bx0 := [deckA l a4 s4]) (con_matrixT l a4 s4 r c m3 hl (by omega) (by omega)) (by simp only [go_sem]) (by simp only [go_sem]) (by simp only [go_sem]) (by simp only [go_sem]) (by simp only [go_sem]) ?_
  rintro _ bx ⟨mb, a5, s5, rfl, n1, n2, n3, rfl⟩
  simp only [go_sem]
  refine CallU.lend (con_smallM mb (by omega) (fun y hy => by have := (n2 y hy).1; omega)) (by simp only [go_sem]) (by simp only [go_sem]) ?_
  rintro _ rfl
  simp only [go_sem]
  refine CallU.boxes (i := 0) (is := []) (bx0 := [deckA l a5 s5]) (con_small l a5 s5 c 5 n3 hl (by omega) (by omega) (by omega)) (by simp only [go_sem]) (by simp only [go_sem]) (by simp only [go_sem]) (by simp only [go_sem]) (by simp only [go_sem]) ?_
  rintro _ bx ⟨v, a6, s6, rfl, v1', v2', v3', rfl⟩
  simp only [go_sem]
  obtain ⟨A, hA⟩ : ∃ A, A = smallF ma := ⟨_, rfl⟩
  obtain ⟨B, hB⟩ : ∃ B, B = smallF mb := ⟨_, rfl⟩
  have hAl : A.length = n := by rw [hA]; simp [smallF, m1]
  have hBl : B.length = r := by rw [hB]; simp [smallF, n1]
  have hA2 : ∀ row ∈ A, Two r row := by rw [hA]; exact small_two m2
  have hB2 : ∀ row ∈ B, Two c row := by rw [hB]; exact small_two n2
  have hAf : Fits A := ⟨by omega, fun row hr => by rw [(hA2 row hr).1]; omega⟩
  have hBf : Fits B := ⟨by omega, fun row hr => by rw [(hB2 row hr).1]; omega⟩
  have hS : Sizes A B v n r c := ⟨hAl, hBl, v1', hn4, hr4, hc4, hA2, hB2, v2'⟩
  have hzA : (rowsA 3266 A).map (freezeRow fun t => t == 3266 || t == 3586) = A.map (vs 0) := rowsA_freeze (by decide)
  have hzB : (rowsA 3586 B).map (freezeRow fun t => t == 3266 || t == 3586) = B.map (vs 0) := rowsA_freeze (by decide)
  rw [← hA, ← hB]
  refine CallU.freeze (con_multiply A B hAf hBf) (by simp only [go_sem]) (by simp only [go_sem]) ?_
  rintro _ bx rfl
  rw [mult_small hAl hn1 hn4 hBl hr1 hr4 hc1 hc4 hA2 hB2]
  obtain ⟨P, hP⟩ : ∃ P, P = multF A B := ⟨_, rfl⟩
  rw [← hP]
  simp only [go_sem, vpairt, hzA, hzB]
  have hvb : ∀ x ∈ v, -64 ≤ x ∧ x ≤ 64 := fun x hx => by have := v2' x hx; omega
  refine CallU.freeze (con_apply B v hBf (by omega)) (by simp only [go_sem]) (by simp only [go_sem]) ?_
  rintro _ bx rfl
  rw [apply_small (n := r) (c := c) hBl (by omega) (by omega) (by omega) (by omega) (fun row hr => (hB2 row hr).ok) v1' hvb]
  obtain ⟨W, hW⟩ : ∃ W, W = B.map fun row => dotF row v := ⟨_, rfl⟩
  have hPl : P.length = n := by rw [hP]; simp [multF, hAl]
  have hPr : ∀ i, i < n → P[i]!.length = c := fun i hi => by
    rw [hP]; simp only [multF]
    rw [mapAt (by omega), List.length_map, List.length_range]
    exact (hS.b (by omega)).1
  have hWl : W.length = r := by rw [hW]; simp [hBl]
  rw [← hW]
  simp only [go_sem, vpair, hPl]
  refine LoopK.intro (fun i : Nat => ⟨194, [(6, vi c), (7, vm 0 A), (8, vm 0 B), (9, .sl 0 1 (v.map vi)), (10, vt 4034 P), (12, .sl 4418 1 (W.map vi)), (84, vi n), (85, vi i)], [[.any, .any, .any]]⟩)
    (fun i => n - i) (fun i => i ≤ n) 0 (by omega) ?_ ?_
  · simp only [go_sem]
  intro i hi
  by_cases h : i < n
  · have hgP := gett (t := 4034) (i := i) (M := P) (by omega)
    have hgA := getm (l := A) (i := i) (by omega)
    have hal := (hS.a h).1
    have hpl := hPr i h
    have hwi : IntKind.i64.wrap (i + 1) = i + 1 := wrap_in (by omega) (by omega)
    simp only [go_sem, h]
    refine LoopK.intro (fun k : Nat => ⟨194, [(6, vi c), (7, vm 0 A), (8, vm 0 B), (9, .sl 0 1 (v.map vi)), (10, vt 4034 P), (12, .sl 4418 1 (W.map vi)), (84, vi n), (85, vi i), (14, vi i), (15, vi (dotN P[i]! v k)), (16, vi 0), (89, vi v.length), (90, vi k)], [[.any, .any, .any]]⟩)
      (fun k => c - k) (fun k => k ≤ c) 0 (by omega) ?_ ?_
    · simp only [go_sem, dotN]
    intro k hk
    by_cases hkc : k < c
    · have hgv := getv (l := v) (i := k) (by omega)
      have hgp := getv (l := P[i]!) (i := k) (by omega)
      have hwk : IntKind.i64.wrap (k + 1) = k + 1 := wrap_in (by omega) (by omega)
      have hd : IntKind.i64.wrap (dotN P[i]! v k + IntKind.i64.wrap (P[i]![k]! * v[k]!)) = dotN P[i]! v (k + 1) := rfl
      simp only [go_sem, hkc, v1']
      refine DrawK.walk 15 mixed (by kernel_rfl) ?_
      simp only [go_sem, h, hkc, v1', hPl, hgP, hpl, hgv, hgp, hwk, hd]
      refine roundK.intro (k + 1) (by omega) (by omega) ?_
      simp only [go_sem, v1']
    have hkc' : k = c := by omega
    subst hkc'
    simp only [go_sem, hkc, v1']
    refine LoopK.intro (fun j : Nat => ⟨194, [(6, vi k), (7, vm 0 A), (8, vm 0 B), (9, .sl 0 1 (v.map vi)), (10, vt 4034 P), (12, .sl 4418 1 (W.map vi)), (84, vi n), (85, vi i), (14, vi i), (15, vi (dotN P[i]! v k)), (16, vi (dotN A[i]! W j)), (109, vi W.length), (110, vi j)], [[.any, .any, .any]]⟩)
      (fun j => r - j) (fun j => j ≤ r) 0 (by omega) ?_ ?_
    · simp only [go_sem, dotN]
    intro j hj
    by_cases hjr : j < r
    · have hgw := getv (l := W) (i := j) (by omega)
      have hga := getv (l := A[i]!) (i := j) (by omega)
      have hwj : IntKind.i64.wrap (j + 1) = j + 1 := wrap_in (by omega) (by omega)
      have hd : IntKind.i64.wrap (dotN A[i]! W j + IntKind.i64.wrap (A[i]![j]! * W[j]!)) = dotN A[i]! W (j + 1) := rfl
      simp only [go_sem, hjr, hWl]
      refine DrawK.walk 15 mixed (by kernel_rfl) ?_
      simp only [go_sem, h, hjr, hWl, hAl, hgA, hal, hgw, hga, hwj, hd]
      refine roundK.intro (j + 1) (by omega) (by omega) ?_
      simp only [go_sem, hWl]
    have hjr' : j = r := by omega
    have e : dotN P[i]! v k = dotN A[i]! W j := by rw [hP, hW, hjr']; exact prods hS hr1 h
    simp only [go_sem, hjr, hWl, e, hwi]
    refine roundK.intro (i + 1) (by omega) (by omega) ?_
    simp only [go_sem]
  simp only [go_sem, h]
  have hA0 : A[0]!.length = r := (hS.a (by omega)).1
  have hB0 : B[0]!.length = c := (hS.b (by omega)).1
  obtain ⟨X, hX⟩ : ∃ X, X = transF A := ⟨_, rfl⟩
  obtain ⟨Y, hY⟩ : ∃ Y, Y = transF B := ⟨_, rfl⟩
  have hXl : X.length = r := by rw [hX]; simp only [transF, List.length_map, List.length_range]; exact hA0
  have hYl : Y.length = c := by rw [hY]; simp only [transF, List.length_map, List.length_range]; exact hB0
  have hX2 : ∀ row ∈ X, Two n row := by rw [hX]; exact trans_two hAl hA0 hA2
  have hY2 : ∀ row ∈ Y, Two r row := by rw [hY]; exact trans_two hBl hB0 hB2
  have hXf : Fits X := ⟨by omega, fun row hr => by rw [(hX2 row hr).1]; omega⟩
  have hYf : Fits Y := ⟨by omega, fun row hr => by rw [(hY2 row hr).1]; omega⟩
  refine CallU.free (con_transpose A hAf) (by simp only [go_sem]) (by simp only [go_sem]) ?_
  rintro _ bx rfl
  rw [trans_small hAl hn1 hn4 hr1 hr4 hA2, ← hX]
  simp only [go_sem, vpairm]
  refine CallU.free (con_transpose B hBf) (by simp only [go_sem]) (by simp only [go_sem]) ?_
  rintro _ bx rfl
  rw [trans_small hBl hr1 hr4 hc1 hc4 hB2, ← hY]
  simp only [go_sem, vpairm]
  refine CallU.freeze (con_multiply Y X hYf hXf) (by simp only [go_sem]) (by simp only [go_sem]) ?_
  rintro _ bx rfl
  rw [mult_small hYl hc1 hc4 hXl hr1 hr4 hn1 hn4 hY2 hX2]
  obtain ⟨Q, hQ⟩ : ∃ Q, Q = multF Y X := ⟨_, rfl⟩
  have hX0 : X[0]!.length = n := (hX2 _ (mem_at (by omega))).1
  have hQl : Q.length = c := by rw [hQ]; simp [multF, hYl]
  have hQr : ∀ j, j < c → Q[j]!.length = n := fun j hj => by
    rw [hQ]; simp only [multF]
    rw [mapAt (by omega), List.length_map, List.length_range]
    exact hX0
  have hQP : ∀ i j, i < n → j < c → Q[j]![i]! = P[i]![j]! := fun i j hi hj => by
    rw [hQ, hP, hX, hY]; exact trans_prod hS hr1 hi hj
  rw [← hQ]
  simp only [go_sem, vpairt, hQl, hPl]
  refine LoopK.intro (fun i : Nat => ⟨194, [(10, vt 4034 P), (23, vt 9346 Q), (165, vi n), (166, vi i)], [[.any, .any, .any]]⟩)
    (fun i => n - i) (fun i => i ≤ n) 0 (by omega) ?_ ?_
  · simp only [go_sem]
  intro i hi
  by_cases h : i < n
  · have hgP := gett (t := 4034) (i := i) (M := P) (by omega)
    have hpl := hPr i h
    have hwi : IntKind.i64.wrap (i + 1) = i + 1 := wrap_in (by omega) (by omega)
    simp only [go_sem, h, hPl, hgP, hpl]
    refine LoopK.intro (fun k : Nat => ⟨194, [(10, vt 4034 P), (23, vt 9346 Q), (165, vi n), (166, vi i), (25, vi i), (173, vi c), (174, vi k)], [[.any, .any, .any]]⟩)
      (fun k => c - k) (fun k => k ≤ c) 0 (by omega) ?_ ?_
    · simp only [go_sem]
    intro k hk
    by_cases hkc : k < c
    · have hgQ := gett (t := 9346) (i := k) (M := Q) (by omega)
      have hql := hQr k hkc
      have hgq := getv (l := Q[k]!) (i := i) (by omega)
      have hgp := getv (l := P[i]!) (i := k) (by omega)
      have hwk : IntKind.i64.wrap (k + 1) = k + 1 := wrap_in (by omega) (by omega)
      have e := hQP i k h hkc
      simp only [go_sem, hkc]
      refine DrawK.walk 15 mixed (by kernel_rfl) ?_
      simp only [go_sem, h, hkc, hPl, hQl, hgP, hgQ, hpl, hql, hgq, hgp, e, hwk]
      refine roundK.intro (k + 1) (by omega) (by omega) ?_
      simp only [go_sem]
    · simp only [go_sem, hkc, hwi]
      refine roundK.intro (i + 1) (by omega) (by omega) ?_
      simp only [go_sem]
  · simp only [go_sem, h]
end Go.AM
