/-
  Plain laws: what the leading rows and columns say of the kernel.
-/
import Derived.Test.YtmkbhopiaohcmaaLa
import Derived.Test.YtmkbhopiaohcmaaWE
namespace Go.AM
open Go Go.Proofs Go.RowKit
open Go.La (Col D con cram sum)

/-- a column of a matrix -/
def cl (m : List (List Int)) (c : Int) : Col := fun i => m[i]![c.toNat]!

/-- the expansion along a row, over places -/
def conI (row : List Int) (g : List Int → Int) : List Int → Int
  | [] => 0
  | c :: C => row[c.toNat]! * g C - conI row (fun L => g (c :: L)) C

theorem detGoZ_con (rec : List Int → Int) (row : List Int) : ∀ (post pre : List Int), (detGoZ rec row (pre ++ post) (pre ++ post).length).1 = (detGoZ rec row (pre ++ post) pre.length).1 + (detGoZ rec row (pre ++ post) pre.length).2 * conI row (fun L => rec (pre ++ L)) post
  | [], pre => by simp [conI]
  | c :: post, pre => by
    have ih := detGoZ_con rec row post (pre ++ [c])
    have e : pre ++ [c] ++ post = pre ++ c :: post := by simp
    rw [e] at ih
    rw [ih]
    have hc : (pre ++ c :: post)[pre.length]! = c := by rw [getElem!_pos _ _ (by simp)]; simp
    have ht : (pre ++ c :: post).take pre.length ++ (pre ++ c :: post).drop (pre.length + 1) = pre ++ post := by simp [List.drop_append]
    simp only [List.length_append, List.length_cons, List.length_nil, Nat.zero_add, detGoZ, hc, ht, conI, List.append_assoc, List.cons_append, List.nil_append]
    rw [Int.neg_mul, Int.mul_sub, Int.mul_assoc]; omega

theorem conI_con {m : List (List Int)} {r : Nat} : ∀ (C : List Int) (g : List Int → Int) (h : List Col → Int) (n : Nat), C.length = n + 1 → (∀ L, (∀ x ∈ L, x ∈ C) → L.length = n → g L = h (L.map (cl m))) → conI m[r]! g C = con r h (C.map (cl m))
  | [], _, _, n, hl, _ => by simp at hl
  | c :: C, g, h, n, hl, hg => by
    have hn : C.length = n := by simpa using hl
    simp only [conI, con, List.map_cons]
    rw [hg C (fun x hx => by simp [hx]) hn]
    cases n with
    | zero =>
      have : C = [] := List.eq_nil_of_length_eq_zero hn
      subst this; rfl
    | succ n =>
      rw [conI_con C (fun L => g (c :: L)) (fun L => h (cl m c :: L)) n hn (fun L hL hLn => hg (c :: L) (fun x hx => by
        rcases List.mem_cons.1 hx with rfl | hx
        · simp
        · simp [hL x hx]) (by simp [hLn]))]
      rfl

theorem detZ_D (m : List (List Int)) : ∀ (rows cols : List Int), cols.length = rows.length → detZ m rows cols = D (rows.map Int.toNat) (cols.map (cl m))
  | [], [], _ => rfl
  | r :: rs, cols, hl => by
    have h := detGoZ_con (detZ m rs) m[r.toNat]! cols []
    simp only [List.nil_append, List.length_nil, detGoZ, Int.one_mul, Int.zero_add] at h
    simp only [detZ, h, List.map_cons]
    exact conI_con cols _ _ rs.length (by simpa using hl) (fun L _ hL => detZ_D m rs L hL)

theorem det_D {m : List (List Int)} {n : Nat} (hw : Wide n m) (hs : Slight m) {rows cols : List Int} (hr : Below m.length rows) (hc : Below n cols) (h6 : rows.length ≤ 6) (hl : cols.length = rows.length) :
    detF m rows cols = D (rows.map Int.toNat) (cols.map (cl m)) := by
  rw [(det_eq m n hw hs rows cols hr hc h6 (by omega)).1, detZ_D m rows cols hl]

/-! ### the leading columns -/
theorem lead_prefix (m : List (List Int)) (j : Nat) : ∀ k, ∀ c ∈ (leadGo m j).2, c ∈ (leadGo m (j + k)).2
  | 0, c, hc => hc
  | k + 1, c, hc => by
    have ih := lead_prefix m j k c hc
    show c ∈ (leadGo m (j + k + 1)).2
    simp only [leadGo]
    cases pickF m (leadGo m (j + k)) (j + k : Nat) with
    | none => exact ih
    | some i => simp [ih]

theorem lead_mem (m : List (List Int)) (f : Nat) : ∀ j, (f : Int) ∈ (leadGo m j).2 ↔ f < j ∧ (pickF m (leadGo m f) f).isSome = true
  | 0 => by simp [leadGo]
  | j + 1 => by
    have ih := lead_mem m f j
    have hb := (lead_ok m j).cols
    cases hp : pickF m (leadGo m j) j with
    | none =>
      simp only [leadGo, hp, ih]
      constructor
      · rintro ⟨h1, h2⟩; exact ⟨by omega, h2⟩
      · rintro ⟨h1, h2⟩
        refine ⟨?_, h2⟩
        have : f ≠ j := by rintro rfl; rw [hp] at h2; simp at h2
        omega
    | some i =>
      simp only [leadGo, hp, List.mem_append, List.mem_singleton, ih]
      constructor
      · rintro (⟨h1, h2⟩ | h)
        · exact ⟨by omega, h2⟩
        · have : f = j := by omega
          subst this; rw [hp]; simp
      · rintro ⟨h1, h2⟩
        by_cases hf : f = j
        · exact .inr (by omega)
        · exact .inl ⟨by omega, h2⟩

theorem kern_count (m : List (List Int)) (rows : List Int) (all : Int) (n : Nat) : ∀ f, f ≤ n → (kernGo m rows (leadGo m n).2 all n f).length + (leadGo m f).2.length = f
  | 0, _ => by simp [kernGo, leadGo]
  | f + 1, h => by
    have ih := kern_count m rows all n f (by omega)
    have hm := lead_mem m f n
    have hany : ((leadGo m n).2.any fun x => (f : Int) == x) = (pickF m (leadGo m f) f).isSome := by
      rw [Bool.eq_iff_iff, List.any_eq_true]
      constructor
      · rintro ⟨x, hx, he⟩
        have : (f : Int) = x := by simpa using he
        subst this; exact (hm.1 hx).2
      · intro h2; exact ⟨f, hm.2 ⟨by omega, h2⟩, by simp⟩
    simp only [kernGo, hany, leadGo]
    cases hp : pickF m (leadGo m f) f with
    | none => simp; omega
    | some i => simp; omega

/-- at a free column: it is bound to the leading columns before it -/
theorem free_bound {m : List (List Int)} (hV : Valid m) {f : Nat} (hf : f < m[0]!.length) (hp : pickF m (leadGo m f) f = none) {i : Nat} (hi : i < m.length) :
    D ((leadGo m f).1.map Int.toNat) ((leadGo m f).2.map (cl m)) ≠ 0 ∧ D ((leadGo m f).1.map Int.toNat) ((leadGo m f).2.map (cl m)) * cl m f i = cram (D ((leadGo m f).1.map Int.toNat)) (cl m f) ((leadGo m f).2.map (cl m)) i := by
  obtain ⟨h1, h2, h3, h4⟩ := lead_ok m f
  have hn := nodup_below _ _ (lead_nodup m f) h1
  have hsm := hV.small
  have hne := lead_ne m f
  rw [det_D hV.wide hV.slight h1 (h2.mono (by omega)) (by omega) h3.symm] at hne
  refine ⟨hne, ?_⟩
  by_cases hir : (i : Int) ∈ (leadGo m f).1
  · have hmem : i ∈ (leadGo m f).1.map Int.toNat := List.mem_map.2 ⟨i, hir, by simp⟩
    have := Go.La.cram_rows hmem (cl m f) ((leadGo m f).2.map (cl m))
    rw [← this, Int.mul_comm]
  · have hpk : pickOk m (leadGo m f) f i = false := by
      unfold pickF at hp
      rw [List.find?_eq_none] at hp
      simpa using hp i (List.mem_range.2 hi)
    have hany : ((leadGo m f).1.any fun x => (i : Int) == x) = false := by
      rw [List.any_eq_false]
      intro x hx he
      have : (i : Int) = x := by simpa using he
      subst this; exact hir hx
    simp only [pickOk, hany, Bool.not_false, Bool.true_and, bne_eq_false_iff_eq] at hpk
    have hnd : ((leadGo m f).1 ++ [(i : Int)]).Nodup := by
      rw [List.nodup_append]
      refine ⟨lead_nodup m f, by simp, fun a ha b hb => ?_⟩
      simp at hb; subst hb
      rintro rfl; exact hir ha
    have hlen := nodup_below _ _ hnd (h1.snoc (by omega) (by omega : (i : Int) < m.length))
    simp only [List.length_append, List.length_singleton] at hlen
    rw [det_D hV.wide hV.slight (h1.snoc (by omega) (by omega)) ((h2.mono (k := m[0]!.length) (by omega)).snoc (by omega) (by omega)) (by simp; omega) (by simp; omega)] at hpk
    simp only [List.map_append, List.map_cons, List.map_nil, Int.toNat_natCast] at hpk
    exact Go.La.cramer (by simpa using h3.symm) hne hpk

/-- .. and to all leading columns, by Cramer's numerators -/
theorem free_kernel {m : List (List Int)} (hV : Valid m) {f : Nat} (hf : f < m[0]!.length) (hp : pickF m (leadGo m f) f = none) {i : Nat} (hi : i < m.length) :
    D ((leadF m).1.map Int.toNat) ((leadF m).2.map (cl m)) ≠ 0 ∧ D ((leadF m).1.map Int.toNat) ((leadF m).2.map (cl m)) * cl m f i = cram (D ((leadF m).1.map Int.toNat)) (cl m f) ((leadF m).2.map (cl m)) i := by
  obtain ⟨L1, L2, L3, L4⟩ := lead_len hV
  have hne : detF m (leadF m).1 (leadF m).2 ≠ 0 := lead_ne m m[0]!.length
  rw [det_D hV.wide hV.slight L3 L4 L1 L2] at hne
  refine ⟨hne, ?_⟩
  by_cases hir : i ∈ (leadF m).1.map Int.toNat
  · rw [← Go.La.cram_rows hir (cl m f) ((leadF m).2.map (cl m)), Int.mul_comm]
  · refine Go.La.cramer (by simpa using L2) hne ?_
    have hb := fun {i} hi => free_bound hV hf hp (i := i) hi
    refine Go.La.D_bound (C := (leadGo m f).2.map (cl m)) (f := D ((leadGo m f).1.map Int.toNat)) (hb hi).1 (fun c hc => ?_) (fun r hr => ?_)
    · obtain ⟨x, hx, rfl⟩ := List.mem_map.1 hc
      have := lead_prefix m f (m[0]!.length - f) x hx
      rw [show f + (m[0]!.length - f) = m[0]!.length by omega] at this
      exact List.mem_map.2 ⟨x, this, rfl⟩
    · rcases List.mem_append.1 hr with h | h
      · obtain ⟨x, hx, rfl⟩ := List.mem_map.1 h
        have := L3 x hx
        exact (hb (i := x.toNat) (by omega)).2
      · simp at h; subst h; exact (hb hi).2
end Go.AM
