/-
  Plain laws: determinants by contraction: alternating in rows and columns, linear in columns, Cramer's rule.
-/
namespace Go.La

/-- a column: its element in each row -/
abbrev Col := Nat → Int
/-- the expansion along row r of what g says of the columns left -/
def con (r : Nat) (g : List Col → Int) : List Col → Int
  | [] => 0
  | c :: C => c r * g C - con r (fun L => g (c :: L)) C
/-- the determinant -/
def D : List Nat → List Col → Int
  | [] => fun C => if C.isEmpty then 1 else 0
  | r :: R => con r (D R)

theorem con_add (r : Nat) : ∀ (C : List Col) (g h : List Col → Int), con r (fun L => g L + h L) C = con r g C + con r h C
  | [], g, h => by simp [con]
  | c :: C, g, h => by simp only [con, con_add r C, Int.mul_add]; omega
theorem con_smul (r : Nat) (a : Int) : ∀ (C : List Col) (g : List Col → Int), con r (fun L => a * g L) C = a * con r g C
  | [], g => by simp [con]
  | c :: C, g => by
    simp only [con, con_smul r a C, Int.mul_sub]
    rw [← Int.mul_assoc, ← Int.mul_assoc, Int.mul_comm (c r) a]
theorem con_neg (r : Nat) (C : List Col) (g : List Col → Int) : con r (fun L => - g L) C = - con r g C := by
  have := con_smul r (-1) C g
  have e : (fun L => -1 * g L) = fun L => - g L := by funext L; omega
  rw [e] at this; omega
theorem con_zero (r : Nat) : ∀ (C : List Col), con r (fun _ => 0) C = 0
  | [] => rfl
  | c :: C => by simp [con, con_zero r C]
theorem con_sub (r : Nat) (C : List Col) (g h : List Col → Int) : con r (fun L => g L - h L) C = con r g C - con r h C := by
  have e : (fun L => g L - h L) = fun L => g L + - h L := by funext L; omega
  rw [e, con_add, con_neg]; omega

/-- rows alternate -/
theorem con_swap (r s : Nat) : ∀ (C : List Col) (g : List Col → Int), con r (con s g) C = - con s (con r g) C
  | [], g => by simp [con]
  | c :: C, g => by
    have ih := con_swap r s C (fun L => g (c :: L))
    simp only [con]
    have e1 : ∀ r s : Nat, con r (fun L => con s g (c :: L)) C = c s * con r g C - con r (con s fun L => g (c :: L)) C := fun r s => by
      have : (fun L => con s g (c :: L)) = fun L => c s * g L - con s (fun L => g (c :: L)) L := by funext L; rfl
      rw [this, con_sub, con_smul]
    have e2 := e1 r s
    have e3 := e1 s r
    simp only [con] at e2 e3
    rw [e2, e3]; omega

theorem D_swap (r s : Nat) (R : List Nat) (C : List Col) : D (r :: s :: R) C = - D (s :: r :: R) C := con_swap r s C (D R)
theorem D_same (r : Nat) (R : List Nat) (C : List Col) : D (r :: r :: R) C = 0 := by have := D_swap r r R C; omega
theorem D_row_mem {r : Nat} : ∀ {R : List Nat} (C : List Col), r ∈ R → D (r :: R) C = 0
  | s :: R, C, h => by
    rcases List.mem_cons.1 h with rfl | h
    · exact D_same _ _ _
    · rw [D_swap]
      have : D (r :: R) = fun _ => 0 := by funext L; exact D_row_mem L h
      show - con s (D (r :: R)) C = 0
      rw [this, con_zero]; rfl

/-! ### columns -/
def Alt (g : List Col → Int) : Prop := ∀ P a b Q, g (P ++ a :: b :: Q) = - g (P ++ b :: a :: Q)
theorem Alt.cons {g : List Col → Int} (h : Alt g) (c : Col) : Alt fun L => g (c :: L) := fun P a b Q => h (c :: P) a b Q
theorem Alt.con {g : List Col → Int} (r : Nat) (h : Alt g) : Alt (con r g) := by
  intro P
  induction P generalizing g with
  | nil =>
    intro a b Q
    have e : (fun L => g (a :: b :: L)) = fun L => - g (b :: a :: L) := by funext L; exact h [] a b L
    simp only [List.nil_append, La.con, e, con_neg]; omega
  | cons c P ih =>
    intro a b Q
    simp only [List.cons_append, La.con]
    rw [ih (h.cons c) a b Q, h P a b Q, Int.mul_neg]; omega
theorem D_alt : ∀ R, Alt (D R)
  | [] => fun P a b Q => by cases P <;> simp [D]
  | r :: R => (D_alt R).con r

theorem Alt.move {g : List Col → Int} (h : Alt g) (a : Col) : ∀ (M P Q : List Col), (∃ s : Int, (s = 1 ∨ s = -1) ∧ g (P ++ a :: M ++ Q) = s * g (P ++ M ++ a :: Q))
  | [], P, Q => ⟨1, .inl rfl, by simp⟩
  | b :: M, P, Q => by
    obtain ⟨s, hs, e⟩ := h.move a M (P ++ [b]) Q
    refine ⟨-s, by omega, ?_⟩
    have e1 := h P a b (M ++ Q)
    simp only [List.append_assoc, List.cons_append, List.nil_append] at e e1 ⊢
    rw [e1, e, Int.neg_mul]
theorem Alt.same {g : List Col → Int} (h : Alt g) (P Q : List Col) (a : Col) : g (P ++ a :: a :: Q) = 0 := by have := h P a a Q; omega
theorem Alt.twice {g : List Col → Int} (h : Alt g) (P M Q : List Col) (a : Col) : g (P ++ a :: M ++ a :: Q) = 0 := by
  obtain ⟨s, _, e⟩ := h.move a M P (a :: Q)
  have := h.same (P ++ M) Q a
  rw [e, this, Int.mul_zero]
theorem Alt.mem {g : List Col → Int} (h : Alt g) {a : Col} {C : List Col} (ha : a ∈ C) : g (C ++ [a]) = 0 := by
  obtain ⟨P, M, rfl⟩ := List.append_of_mem ha
  have := h.twice P M [] a
  simpa using this

/-- linear in each column -/
def Lin (g : List Col → Int) : Prop := ∀ P Q x y (a b : Int), g (P ++ (fun r => a * x r + b * y r) :: Q) = a * g (P ++ x :: Q) + b * g (P ++ y :: Q)
theorem Lin.cons {g : List Col → Int} (h : Lin g) (c : Col) : Lin fun L => g (c :: L) := fun P Q x y a b => h (c :: P) Q x y a b
theorem Lin.con {g : List Col → Int} (r : Nat) (h : Lin g) : Lin (con r g) := by
  intro P
  induction P generalizing g with
  | nil =>
    intro Q x y a b
    have e : (fun L => g ((fun r => a * x r + b * y r) :: L)) = fun L => a * g (x :: L) + b * g (y :: L) := by funext L; exact h [] L x y a b
    simp only [List.nil_append, La.con, e, con_add, con_smul, Int.add_mul, Int.mul_sub, Int.mul_assoc]; omega
  | cons c P ih =>
    intro Q x y a b
    simp only [List.cons_append, La.con]
    rw [ih (h.cons c) Q x y a b, h P Q x y a b, Int.mul_add, Int.mul_sub, Int.mul_sub]
    have e : ∀ z : Int, c r * (a * z) = a * (c r * z) := fun z => by rw [← Int.mul_assoc, Int.mul_comm (c r) a, Int.mul_assoc]
    have e' : ∀ z : Int, c r * (b * z) = b * (c r * z) := fun z => by rw [← Int.mul_assoc, Int.mul_comm (c r) b, Int.mul_assoc]
    rw [e, e']; omega
theorem D_lin : ∀ R, Lin (D R)
  | [] => fun P Q x y a b => by cases P <;> simp [D]
  | r :: R => (D_lin R).con r

/-! ### Cramer -/
/-- what Cramer's numerators make of the columns -/
def cram (g : List Col → Int) (y : Col) : List Col → Col
  | [] => fun _ => 0
  | c :: C => fun r => g (y :: C) * c r + cram (fun L => g (c :: L)) y C r

theorem cram_con (r : Nat) (y : Col) : ∀ (C : List Col) {g : List Col → Int}, Alt g → con r (fun L => g (y :: L)) C = cram g y C r
  | [], g, _ => rfl
  | c :: C, g, h => by
    have e : (fun L => g (y :: c :: L)) = fun L => - g (c :: y :: L) := by funext L; exact h [] y c L
    simp only [con, cram, e, con_neg]
    rw [cram_con r y C (h.cons c), Int.mul_comm]; omega

/-- .. in the rows themselves -/
theorem cram_rows {R : List Nat} {r : Nat} (hr : r ∈ R) (y : Col) (C : List Col) : y r * D R C = cram (D R) y C r := by
  have h := D_row_mem (y :: C) hr
  have : D (r :: R) (y :: C) = y r * D R C - con r (fun L => D R (y :: L)) C := rfl
  rw [this, cram_con r y C (D_alt R)] at h
  omega

/-- a last column that is zero in all rows but the last -/
theorem D_last {i : Nat} {x : Col} : ∀ (R : List Nat) (C : List Col), C.length = R.length → (∀ r ∈ R, x r = 0) → D (R ++ [i]) (C ++ [x]) = x i * D R C
  | [], [], _, _ => by simp [D, con]
  | r :: R, C, hl, h0 => by
    have hr := h0 r (by simp)
    have ih := fun C' hl' => D_last (i := i) (x := x) R C' hl' (fun s hs => h0 s (by simp [hs]))
    show con r (D (R ++ [i])) (C ++ [x]) = x i * con r (D R) C
    have key : ∀ (C : List Col) (n : Nat) (g h : List Col → Int), C.length = n + 1 → (∀ L : List Col, L.length = n → g (L ++ [x]) = x i * h L) → con r g (C ++ [x]) = x i * con r h C := by
      intro C
      induction C with
      | nil => intro n g h hl; simp at hl
      | cons c C ihC =>
        intro n g h hl hg
        simp only [List.cons_append, con]
        rw [hg C (by simpa using hl)]
        cases n with
        | zero =>
          have : C = [] := List.eq_nil_of_length_eq_zero (by simpa using hl)
          subst this
          simp only [List.nil_append, con, hr, Int.zero_mul, Int.sub_zero]
          rw [← Int.mul_assoc, ← Int.mul_assoc, Int.mul_comm (c r)]
        | succ n =>
          rw [ihC n (fun L => g (c :: L)) (fun L => h (c :: L)) (by simpa using hl) (fun L hL => hg (c :: L) (by simp [hL]))]
          rw [Int.mul_sub, ← Int.mul_assoc, ← Int.mul_assoc, Int.mul_comm (c r)]
    exact key C R.length (D (R ++ [i])) (D R) (by simpa using hl) (fun L hL => ih L hL)

/-- what is a combination of columns that are there adds nothing -/
theorem cram_last {g : List Col → Int} (ha : Alt g) (hl : Lin g) (B : List Col) (f : List Col → Int) (y : Col) : ∀ (C : List Col), (∀ c ∈ C, c ∈ B) → ∀ (a : Int) (z : Col), g (B ++ [fun r => a * z r - cram f y C r]) = a * g (B ++ [z])
  | [], _, a, z => by
    have := hl B [] z z a 0
    simp only [Int.zero_mul, Int.add_zero] at this
    simp only [cram, Int.sub_zero]; exact this
  | c :: C, hc, a, z => by
    have ih := cram_last ha hl B (fun L => f (c :: L)) y C (fun x hx => hc x (by simp [hx])) a z
    have h := hl B [] (fun r => a * z r - cram (fun L => f (c :: L)) y C r) c 1 (- f (y :: C))
    have e : (fun r => 1 * (a * z r - cram (fun L => f (c :: L)) y C r) + - f (y :: C) * c r) = fun r => a * z r - cram f y (c :: C) r := by
      funext r
      simp only [cram, Int.neg_mul]; omega
    rw [e] at h
    rw [h, ih, ha.mem (hc c (by simp))]; omega

/-- CRAMER: where no row makes the determinant greater, the numerators are the solution in all rows -/
theorem cramer {R : List Nat} {C : List Col} {y : Col} {i : Nat} (hl : C.length = R.length) (hD : D R C ≠ 0) (h0 : D (R ++ [i]) (C ++ [y]) = 0) : D R C * y i = cram (D R) y C i := by
  have h1 := cram_last (D_alt (R ++ [i])) (D_lin (R ++ [i])) C (D R) y C (fun _ h => h) (D R C) y
  rw [h0, Int.mul_zero] at h1
  have h2 := D_last (i := i) (x := fun r => D R C * y r - cram (D R) y C r) R C hl (fun r hr => by
    have := cram_rows hr y C
    rw [Int.mul_comm] at this; omega)
  rw [h1] at h2
  have h3 := Int.mul_eq_zero.1 h2.symm
  rcases h3 with h3 | h3
  · omega
  · exact absurd h3 hD

theorem con_col0 {r : Nat} {x : Col} (hx : x r = 0) : ∀ (P Q : List Col) {g : List Col → Int}, (∀ P Q, g (P ++ x :: Q) = 0) → con r g (P ++ x :: Q) = 0
  | [], Q, g, h => by
    have e : (fun L => g (x :: L)) = fun _ => 0 := by funext L; exact h [] L
    simp only [List.nil_append, con, hx, e, con_zero]; omega
  | c :: P, Q, g, h => by
    simp only [List.cons_append, con]
    rw [h P Q, con_col0 hx P Q (fun P' Q' => h (c :: P') Q')]; omega
/-- a column without elements -/
theorem D_col0 {x : Col} : ∀ (R : List Nat), (∀ r ∈ R, x r = 0) → ∀ P Q, D R (P ++ x :: Q) = 0
  | [], _, P, Q => by cases P <;> simp [D]
  | r :: R, h, P, Q => con_col0 (h r (by simp)) P Q (D_col0 R fun s hs => h s (by simp [hs]))

/-- a column that is bound to columns that are there -/
theorem D_bound {R : List Nat} {B C : List Col} {y : Col} {a : Int} {f : List Col → Int} (ha : a ≠ 0) (hC : ∀ c ∈ C, c ∈ B) (h : ∀ r ∈ R, a * y r = cram f y C r) : D R (B ++ [y]) = 0 := by
  have h1 := cram_last (D_alt R) (D_lin R) B f y C hC a y
  rw [D_col0 R (fun r hr => by have := h r hr; omega) B []] at h1
  rcases Int.mul_eq_zero.1 h1.symm with h2 | h2
  · exact absurd h2 ha
  · exact h2
/-- a sum -/
def sum (F : Nat → Int) : Nat → Int
  | 0 => 0
  | k + 1 => sum F k + F k
theorem sum_shift (F : Nat → Int) : ∀ n, sum F (n + 1) = F 0 + sum (fun k => F (k + 1)) n
  | 0 => by simp [sum]
  | n + 1 => by rw [sum, sum_shift F n]; simp only [sum]; omega
theorem sum_congr {F G : Nat → Int} : ∀ n, (∀ k, k < n → F k = G k) → sum F n = sum G n
  | 0, _ => rfl
  | n + 1, h => by simp only [sum]; rw [sum_congr n (fun k hk => h k (by omega)), h n (by omega)]
theorem sum_smul (a : Int) (F : Nat → Int) : ∀ n, sum (fun k => a * F k) n = a * sum F n
  | 0 => by simp [sum]
  | n + 1 => by simp only [sum, sum_smul a F n, Int.mul_add]
theorem sum_zero (n : Nat) : sum (fun _ => 0) n = 0 := by induction n with | zero => rfl | succ n ih => simp [sum, ih]
theorem sum_one {F : Nat → Int} {f : Nat} : ∀ n, f < n → (∀ k, k < n → k ≠ f → F k = 0) → sum F n = F f
  | 0, h, _ => by omega
  | n + 1, h, h0 => by
    by_cases hf : f = n
    · subst hf
      simp only [sum]
      rw [sum_congr f (G := fun _ => 0) (fun k hk => h0 k (by omega) (by omega)), sum_zero]; omega
    · simp only [sum]
      rw [sum_one n (by omega) (fun k hk hkf => h0 k (by omega) hkf), h0 n (by omega) (by omega)]; omega

theorem cram_sum (y : Col) (r : Nat) : ∀ (C : List Col) (g : List Col → Int), cram g y C r = sum (fun k => g (C.set k y) * (C[k]?.getD fun _ => 0) r) C.length
  | [], g => rfl
  | c :: C, g => by
    rw [List.length_cons, sum_shift]
    simp only [cram, List.set_cons_zero, List.getElem?_cons_zero, Option.getD_some]
    rw [cram_sum y r C]
    rfl
end Go.La
