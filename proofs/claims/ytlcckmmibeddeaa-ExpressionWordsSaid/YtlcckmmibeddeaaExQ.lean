/-
 ExpressionWords: the law's walk (chapter 9).
-/
import Derived.Test.YtlcckmmibeddeaaExP
namespace Go.AM
open Go Go.Proofs Go.RowKit
set_option maxRecDepth 100000
set_option maxHeartbeats 8000000
theorem share9 {body : (Exit -> St -> Prop) -> St -> Prop} {Q : Exit -> St -> Prop} {T : St -> Prop} {A : Prop} (h : (∀ τ, T τ -> LoopK body Q τ) -> A) (key : ∀ τ, T τ -> LoopK body Q τ) : A := h key
theorem words6_all : ∀ (k : Nat) (w : List Int), w.length <= k -> k <= 6 -> (∀ x ∈ w, x = 0 \/ x = 1) -> w ∈ wordsW 6
 | 0, w, h, _, _ => by
  obtain rfl : w = [] := List.length_eq_zero_iff.1 (by omega)
  have := words6.zero
  have hl := words6.len
  rw [<- this]; exact mem_bangI (by omega)
 | k + 1, w, h, hk, hx => by
  by_cases hs : w.length <= k
  ·exact words6_all k w hs (by omega) hx
  have hlt : w.length - 1 < w.length := by omega
  have e : w = w.take k ++ [w[k]!] := by
   have := List.take_succ_eq_append_getElem (l := w) (i := k) (by omega)
   rw [show k + 1 = w.length by omega, List.take_length, <- getElem!_pos w k (by omega)] at this
   exact this
  have ih := words6_all k (w.take k) (by rw [List.length_take]; omega) (by omega) fun x hx' => hx x (List.mem_of_mem_take hx')
  obtain ⟨i, hi, ei⟩ := List.getElem_of_mem ih
  rw [<- getElem!_pos (wordsW 6) i hi] at ei
  have hl := words6.len
  have hI : i < 63 := Classical.byContradiction fun hc => words6.outer i (by omega) (by omega) (by rw [ei, List.length_take]; omega)
  obtain ⟨_, h1, h2⟩ := words6.inner i hI
  rw [ei] at h1 h2
  have hwk := hx w[k]! (mem_bangI (by omega))
  rcases hwk with h0 | h0
  ·rw [h0, <- h1] at e
   rw [e]; exact mem_bangI (by omega)
  ·rw [h0, <- h2] at e
   rw [e]; exact mem_bangI (by omega)
theorem con_x9long (p : List TmD) (_hp : LenP p) : Con Try.prog 16 [vPr p] [] fun r _ => r = vb (decide (1 < p.length)) := by
 refine Con.intro Try.func16 rfl Try.ntmps16 Try.results16 (by kernel_rfl) (by simp) 0 (by simp) ?_
 simp only [go_sem, List.length_map]
 try (by_cases h : 1 < p.length <;> simp only [go_sem, h, decide_true, decide_false])
theorem leqX_valid {p q : List TmD} (h : ValidP 2 p) (h' : ValidP 2 q) : leqX 2 p q = leqP p q := by
 unfold leqX
 rw [check_zero.2 h, check_zero.2 h']; rfl
theorem con_normal2 {p : List TmD} (h : ValidP 2 p) : Con Try.prog 10 [vi 2, vPr p] [] fun r _ => r = .tup [vPr (normP p), vi 0] := by
 have hc := con_xNormal 2 p h.lenP
 rw [check_zero.2 h, if_pos rfl] at hc
 exact hc
theorem con_xWordsLaw (l : List Int) : Con Try.prog 3 [vs 0 l] [] fun r _ => r = vb true := by
 refine Con.intro Try.func3 rfl Try.ntmps3 Try.results3 (by kernel_rfl) (by simp) 0 (by simp) ?_
 simp only [go_sem]
 refine CallU.free con_xawake (by simp only [go_sem]) (by simp only [go_sem]) ?_
 rintro r bx rfl
 simp only [go_sem]
 refine CallU.free (con_few l 0 (by omega)) (by simp only [go_sem]) (by simp only [go_sem]) ?_
 rintro r bx rfl
 by_cases hf : (l.length : Int) <= 400
 case neg =>
  have hf' : ¬ l.length <= 400 := by omega
  simp only [go_sem, hf']
  refine CallU.free con_xawake (by simp only [go_sem]) (by simp only [go_sem]) ?_
  rintro r bx rfl
  simp only [go_sem]
 have hf' : l.length <= 400 := by omega
 simp only [go_sem, hf']
 refine CallU.news (bx0 := []) (con_xNewS l) (by simp only [go_sem]) (by simp only [go_sem]) (by simp only [go_sem]) (by simp only [go_sem]) (by simp only [go_sem]) ?_
 rintro r b ⟨rfl, rfl⟩
 have hd : Dk l (0, 11400714819323198485) := ⟨Nat.zero_le _, by omega⟩
 generalize ((0, 11400714819323198485) : DS) = s0 at hd
 simp only [go_sem]
 refine CallU.boxes (i := 0) (is := []) (bx0 := [deckA l s0]) (con_dProduct l s0 2 4 hd (by omega) (by omega)) (by simp only [go_sem]) (by simp only [go_sem]) (by simp only [go_sem]) (by simp only [go_sem]) (by simp only [go_sem]) ?_
 rintro r b ⟨p, s1, hp, hd1, rfl, rfl⟩
 have hV := hp.valid (by omega)
 simp only [go_sem, vPr]
 refine CallU.boxes (i := 0) (is := []) (bx0 := [deckA l s1]) (con_dProduct l s1 2 4 hd1 (by omega) (by omega)) (by simp only [go_sem]) (by simp only [go_sem]) (by simp only [go_sem]) (by simp only [go_sem]) (by simp only [go_sem]) ?_
 rintro r b ⟨q, s2, hq, hd2, rfl, rfl⟩
 have hW := hq.valid (by omega)
 have hqf := hq.few
 have hVn := hV.norm
 have c1 := con_normal2 hV
 have c2 := con_normal2 hVn
 rw [normP_id hV.ok] at c2
 have c3 := con_r09SameSelf (normP p) hVn.lenP
 have c4 := con_xLeq 2 p (normP p) hV.lenP hVn.lenP
 rw [leqX_valid hV hVn, (leq_iff hV.ok hVn.ok).2 fun w hw => by rw [<- normP_eq p w]; exact hw] at c4
 have c5 := con_xLeq 2 (normP p) p hVn.lenP hV.lenP
 rw [leqX_valid hVn hV, (leq_iff hVn.ok hV.ok).2 fun w hw => by rw [normP_eq p w]; exact hw] at c5
 have cw := con_xwords (wordsW 6) 6 63 words6
 have cpq := con_xLeq 2 p q hV.lenP hW.lenP
 rw [leqX_valid hV hW] at cpq
 have clong := con_x9long p hV.lenP
 have hnl : (normP p).length <= p.length := normP_len p
 have hng : ¬ (p.length : Int) < ((normP p).length : Int) := by omega
 have hne := normP_eq p
 generalize normP p = n at hVn c1 c2 c3 c4 c5 hnl hng hne
 have hWl : (wordsW 6).length = 127 := words6.len
 have hWi := words6_in
 have hall := words6_all 6
 generalize wordsW 6 = W at cw hWl hWi hall
 simp only [vPr] at c1 c2 c3 c4 c5 cpq clong
 simp only [go_sem, vPr]
 refine CallU.free c1 (by simp only [go_sem]) (by simp only [go_sem]) ?_
 rintro r bx rfl
 simp only [go_sem]
 refine CallU.free c2 (by simp only [go_sem]) (by simp only [go_sem]) ?_
 rintro r bx rfl
 simp only [go_sem]
 refine CallU.free c3 (by simp only [go_sem]) (by simp only [go_sem]) ?_
 rintro r bx rfl
 simp only [go_sem]
 refine CallU.free c4 (by simp only [go_sem]) (by simp only [go_sem]) ?_
 rintro r bx rfl
 simp only [go_sem]
 refine CallU.free c5 (by simp only [go_sem]) (by simp only [go_sem]) ?_
 rintro r bx rfl
 simp only [go_sem, hng, List.length_map]
 refine CallU.free cw (by simp only [go_sem]) (by simp only [go_sem]) ?_
 rintro r bx rfl
 simp only [go_sem, List.length_map]
 refine LoopK.intro (fun x : Nat × Bool => ⟨136, [(4, .sl 0 2 (p.map vTm)), (5, .sl 0 2 (q.map vTm)), (6, .sl 0 2 (n.map vTm)), (10, vb x.2), (71, vm 0 W), (72, vi W.length), (73, vi x.1)], [deckA l s2]⟩)
  (fun x => W.length - x.1) (fun x => x.1 <= W.length /\ (x.2 = true -> ∀ j, j < x.1 -> memP p W[j]! = true -> memP q W[j]! = true)) (0, true) ⟨Nat.zero_le _, fun _ j hj => absurd hj (by simp)⟩ ?_ ?_
 ·simp only [go_sem]
 rintro ⟨i, within⟩ ⟨hi, hwt⟩
 simp only at hi hwt
 by_cases h : i < W.length
 case neg =>
  simp only [go_sem, h]
  refine CallU.free cpq (by simp only [go_sem]) (by simp only [go_sem]) ?_
  rintro r bx rfl
  cases hpq : leqP p q with
  | true => simp only [go_sem]
  | false =>
   cases within with
   | false => simp only [go_sem]
   | true =>
    simp only [go_sem]
    refine CallU.free clong (by simp only [go_sem]) (by simp only [go_sem]) ?_
    rintro r bx rfl
    have hlong : 1 < p.length := by
     refine Classical.byContradiction fun hc => ?_
     have := short_leq hV.ok hW.ok (by omega) hqf (fun t ht x hx => by have := (hp.ls t ht).2 x hx; omega) fun w hwl hwx hm => by
      obtain ⟨j, hj, ej⟩ := List.getElem_of_mem (hall w hwl (by decide) hwx)
      have := hwt rfl j (by omega)
      rw [getElem!_pos W j hj, ej] at this
      exact this hm
     rw [hpq] at this; cases this
    simp only [go_sem, hlong, decide_true]
 have hg := getm h
 have hwi : IntKind.i64.wrap (i + 1) = i + 1 := wrap_in (by omega) (by omega)
 obtain ⟨k1, k2⟩ := hWi _ (mem_bang h)
 have hstep : ∀ b : Bool, (b = true -> within = true /\ (memP p W[i]! = true -> memP q W[i]! = true)) -> (b = true -> ∀ j, j < i + 1 -> memP p W[j]! = true -> memP q W[j]! = true) := fun b hb hbt j hj hm => by
  obtain ⟨b1, b2⟩ := hb hbt
  by_cases hji : j = i
  ·subst hji; exact b2 hm
  ·exact hwt b1 j (by omega) hm
 generalize W[i]! = w at hg k1 k2 hstep
 have cp := con_xHas 2 p w hV.lenP (by omega)
 have cn := con_xHas 2 n w hVn.lenP (by omega)
 have cq := con_xHas 2 q w hW.lenP (by omega)
 rw [has_valid hV (by omega) k2] at cp
 rw [has_valid hVn (by omega) k2, <- hne w] at cn
 rw [has_valid hW (by omega) k2] at cq
 have cd := con_r02Drops w (by omega) k2
 simp only [vPr] at cp cn cq
 simp only [go_sem, h, hg]
 refine CallU.free cp (by simp only [go_sem]) (by simp only [go_sem]) ?_
 rintro r bx rfl
 simp only [go_sem]
 refine CallU.free cn (by simp only [go_sem]) (by simp only [go_sem]) ?_
 rintro r bx rfl
 simp only [go_sem]
 refine CallU.free cpq (by simp only [go_sem]) (by simp only [go_sem]) ?_
 rintro r bx rfl
 have hbc : leqP p q = true -> memP p w = true -> memP q w = true := fun hb => (leq_iff hV.ok hW.ok).1 hb w
 apply share9 (T := fun τ => ∃ (b2 : Bool) (L : List (List Int)), (b2 = true -> within = true /\ (memP p w = true -> memP q w = true)) /\ ((∀ x ∈ L, ∃ k, x = w.eraseIdx k) /\ L.length <= 12) /\
  τ.le ⟨136, [(4, .sl 0 2 (p.map vTm)), (5, .sl 0 2 (q.map vTm)), (6, .sl 0 2 (n.map vTm)), (10, vb b2), (71, vm 0 W), (72, vi W.length), (73, vi i), (12, vs 0 w), (13, vb (memP p w)), (110, vm 0 L), (111, vi L.length), (112, vi 0)], [deckA l s2]⟩)
 case h =>
  intro hsh
  cases ha : memP p w with
  | false =>
   cases hb : leqP p q with
   | false =>
    simp only [go_sem]
    cases within with
    | false =>
     simp only [go_sem]
     refine CallU.free cd (by simp only [go_sem]) (by simp only [go_sem]) ?_
     rintro r bx ⟨L, rfl, hL⟩
     simp only [go_sem, List.length_map]
     refine hsh _ ⟨false, L, fun h => Bool.noConfusion h, hL, ?_⟩
     simp only [go_sem, ha]
    | true =>
     simp only [go_sem]
     refine CallU.free cd (by simp only [go_sem]) (by simp only [go_sem]) ?_
     rintro r bx ⟨L, rfl, hL⟩
     simp only [go_sem, List.length_map]
     refine hsh _ ⟨true, L, fun _ => ⟨rfl, fun h => by rw [ha] at h; cases h⟩, hL, ?_⟩
     simp only [go_sem, ha]
   | true =>
    simp only [go_sem]
    cases within with
    | false =>
     simp only [go_sem]
     refine CallU.free cd (by simp only [go_sem]) (by simp only [go_sem]) ?_
     rintro r bx ⟨L, rfl, hL⟩
     simp only [go_sem, List.length_map]
     refine hsh _ ⟨false, L, fun h => Bool.noConfusion h, hL, ?_⟩
     simp only [go_sem, ha]
    | true =>
     simp only [go_sem]
     refine CallU.free cd (by simp only [go_sem]) (by simp only [go_sem]) ?_
     rintro r bx ⟨L, rfl, hL⟩
     simp only [go_sem, List.length_map]
     refine hsh _ ⟨true, L, fun _ => ⟨rfl, fun h => by rw [ha] at h; cases h⟩, hL, ?_⟩
     simp only [go_sem, ha]
  | true =>
   cases hb : leqP p q with
   | false =>
    simp only [go_sem]
    cases within with
    | false =>
     simp only [go_sem]
     refine CallU.free cd (by simp only [go_sem]) (by simp only [go_sem]) ?_
     rintro r bx ⟨L, rfl, hL⟩
     simp only [go_sem, List.length_map]
     refine hsh _ ⟨false, L, fun h => Bool.noConfusion h, hL, ?_⟩
     simp only [go_sem, ha]
    | true =>
     simp only [go_sem]
     refine CallU.free cq (by simp only [go_sem]) (by simp only [go_sem]) ?_
     rintro r bx rfl
     simp only [go_sem]
     refine CallU.free cd (by simp only [go_sem]) (by simp only [go_sem]) ?_
     rintro r bx ⟨L, rfl, hL⟩
     simp only [go_sem, List.length_map]
     refine hsh _ ⟨(memP q w), L, fun h => ⟨rfl, fun _ => h⟩, hL, ?_⟩
     simp only [go_sem, ha]
   | true =>
    rw [hbc hb ha] at cq
    simp only [go_sem]
    refine CallU.free cq (by simp only [go_sem]) (by simp only [go_sem]) ?_
    rintro r bx rfl
    cases within with
    | false =>
     simp only [go_sem]
     refine CallU.free cd (by simp only [go_sem]) (by simp only [go_sem]) ?_
     rintro r bx ⟨L, rfl, hL⟩
     simp only [go_sem, List.length_map]
     refine hsh _ ⟨false, L, fun h => Bool.noConfusion h, hL, ?_⟩
     simp only [go_sem, ha]
    | true =>
     simp only [go_sem]
     refine CallU.free cq (by simp only [go_sem]) (by simp only [go_sem]) ?_
     rintro r bx rfl
     simp only [go_sem]
     refine CallU.free cd (by simp only [go_sem]) (by simp only [go_sem]) ?_
     rintro r bx ⟨L, rfl, hL⟩
     simp only [go_sem, List.length_map]
     refine hsh _ ⟨true, L, fun _ => ⟨rfl, hbc hb⟩, hL, ?_⟩
     simp only [go_sem, ha]
 case key =>
  rintro τ ⟨b2, L, hb2, ⟨hL, hLl⟩, hle⟩
  refine LoopK.intro (fun j : Nat => ⟨136, [(4, .sl 0 2 (p.map vTm)), (5, .sl 0 2 (q.map vTm)), (6, .sl 0 2 (n.map vTm)), (10, vb b2), (71, vm 0 W), (72, vi W.length), (73, vi i), (12, vs 0 w), (13, vb (memP p w)), (110, vm 0 L), (111, vi L.length), (112, vi j)], [deckA l s2]⟩)
   (fun j => L.length - j) (fun j => j <= L.length) 0 (Nat.zero_le _) hle ?_
  clear hle
  rintro j hj
  by_cases h2 : j < L.length
  case neg =>
   simp only [go_sem, h2, hwi]
   refine roundK.intro (i + 1, b2) ⟨by show i + 1 <= W.length; omega, hstep b2 hb2⟩ (by show W.length - (i + 1) < W.length - i; omega) ?_
   simp only [go_sem]
  have hg2 := getm h2
  have hwj : IntKind.i64.wrap (j + 1) = j + 1 := by
   exact wrap_in (by omega) (by omega)
  obtain ⟨k, ek⟩ := hL _ (mem_bang h2)
  have hel : L[j]!.length <= 12 := by
   rw [ek, List.length_eraseIdx]; split <;> omega
  have cv := con_xHas 2 p L[j]! hV.lenP (by omega)
  rw [has_valid hV hel fun x hx => k2 x (by rw [ek] at hx; exact List.mem_of_mem_eraseIdx hx)] at cv
  simp only [vPr] at cv
  cases ha : memP p w with
  | false =>
   simp only [go_sem, h2, hg2, hwj]
   refine roundK.intro (j + 1) (by omega) (by omega) ?_
   simp only [go_sem]
  | true =>
   have hv : memP p L[j]! = true := by rw [ek]; exact memP_erase _ p w k (Nat.le_refl _) ha
   rw [hv] at cv
   simp only [go_sem, h2, hg2]
   refine CallU.free cv (by simp only [go_sem]) (by simp only [go_sem]) ?_
   rintro r bx rfl
   simp only [go_sem, hwj]
   refine roundK.intro (j + 1) (by omega) (by omega) ?_
   simp only [go_sem]
end Go.AM
