/-
  what this claim needs beside the texts ahead
-/
import Derived.Test.YtiklkcjkmhkgjaaGreatg24
namespace Go.AM
open Go.RowKit
theorem cast_bne {a b : Nat} : ((a : Int) != (b : Int)) = decide (a ≠ b) := by
 by_cases h : a = b
 ·subst h; simp
 ·have : (a : Int) ≠ b := by omega
  rw [decide_eq_true h]; exact bne_iff_ne.2 this
attribute [go_sem] cast_bne
section
variable {P : Program} {n : Nat} {t : List (Nat × AV)} {b : List (List AV)}
section
variable {T : TypeId} {k k' : IntKind} {x y : Int} {K : Value -> Prop}
end
section
variable {T : TypeId} {K : AV -> Prop}
end
section
variable {T T' : TypeId} {d : Nat} {K : St -> Prop} {σ : St}
end
end
end Go.AM
namespace Go.AM
open Go.RowKit
def Jk (cs : List Nat) : List (List AV) := cs.map fun c => List.replicate c .any
theorem Jk_len (cs : List Nat) : (Jk cs).length = cs.length := by simp [Jk]
theorem Jk_app (cs ds : List Nat) : Jk (cs ++ ds) = Jk cs ++ Jk ds := by simp [Jk]
@[go_sem] theorem freeB_Jk {d : Nat} : ∀ {cs : List Nat}, freeB d (Jk cs) = true
 | [] => rfl
 | c :: cs => by
  have := freeB_Jk (d := d) (cs := cs)
  unfold Jk at *; rw [List.map_cons, freeB, this, freeA_rep]; rfl
@[go_sem] theorem leB_JkS {cs : List Nat} {x : List (List AV)} : leB (Jk cs ++ x) (Jk cs ++ x) = True := eq_true (leB_self _)
theorem leB_JkA {cs ds : List Nat} {x : List (List AV)} (h : leB x (Jk ds)) : leB (Jk cs ++ x) (Jk (cs ++ ds)) := by rw [Jk_app]; exact leB_app (leB_self _) h
theorem app_setN {α : Type} {B L : List α} {n i : Nat} {z : α} (h : B.length = n) : (B ++ L).set (n + i) z = B ++ L.set i z := by
 rw [List.set_append_right _ _ (by omega), h, Nat.add_sub_cancel_left]
end Go.AM
namespace Go.AM
section
variable {α β : Type}
end
section
variable {α β : Type} [DecidableEq β] (val : α -> β) (ins : List β -> β -> List β)
structure InvB (F : FamB α β) (k : Nat) : Prop where
 low : ∀ j s, s ∈ F.sizes j -> val s ∈ F.known
 from_ : ∀ c ∈ F.known, ∃ j s, 1 <= j /\ j <= k /\ s ∈ F.sizes j /\ val s = c
 none : ∀ j, k < j -> F.sizes j = []
variable {val ins}
theorem add_inv (hi : InsOk ins) {F : FamB α β} {k : Nat} (hk : 1 <= k) (h : InvB val F k) (x : ResB α) : InvB val (addB val ins F k x).1 k := by
 unfold addB
 split
 ·exact h
 ·exact h
 ·rename_i s
  split
  ·exact h
  ·split
   ·exact h
   ·refine ⟨fun j t ht => ?_, fun c hc => ?_, fun j hj => ?_⟩
    ·simp only at ht
     split at ht
     ·rcases List.mem_append.1 ht with ht | ht
      ·exact (hi _ _ _).2 (.inl (h.low j t ht))
      ·rw [List.mem_singleton] at ht; subst ht
       exact (hi _ _ _).2 (.inr rfl)
     ·exact (hi _ _ _).2 (.inl (h.low j t ht))
    ·rcases (hi _ _ _).1 hc with hc | hc
     ·obtain ⟨j, t, h1, h2, h3, h4⟩ := h.from_ c hc
      refine ⟨j, t, h1, h2, ?_, h4⟩
      simp only
      split
      ·exact List.mem_append_left _ h3
      ·exact h3
     ·exact ⟨k, s, hk, Nat.le_refl _, by simp, hc.symm⟩
    ·simp only
     rw [if_neg (by omega)]
     exact h.none j hj
theorem adds_inv (hi : InsOk ins) {k : Nat} (hk : 1 <= k) : ∀ (l : List (ResB α)) (F : FamB α β), InvB val F k -> InvB val (addsB val ins F k l).1 k
 | [], _, h => h
 | x :: l, F, h => by
  rw [addsB]
  split
  ·exact add_inv hi hk h x
  ·exact adds_inv hi hk l _ (add_inv hi hk h x)
theorem adds_new {k : Nat} : ∀ (l : List (ResB α)) (F : FamB α β), ∀ s ∈ (addsB val ins F k l).1.sizes k, s ∈ F.sizes k \/ ResB.ok s ∈ l
 | [], _, s, hs => .inl hs
 | x :: l, F, s, hs => by
  have key : ∀ s ∈ (addB val ins F k x).1.sizes k, s ∈ F.sizes k \/ x = .ok s := fun t ht => by
   unfold addB at ht
   split at ht
   ·exact .inl ht
   ·exact .inl ht
   ·split at ht
    ·exact .inl ht
    ·split at ht
     ·exact .inl ht
     ·simp only [if_true] at ht
      rcases List.mem_append.1 ht with ht | ht
      ·exact .inl ht
      ·rw [List.mem_singleton] at ht; subst ht; exact .inr rfl
  rw [addsB] at hs
  split at hs
  ·rcases key s hs with h | h
   ·exact .inl h
   ·exact .inr (by rw [h]; exact List.mem_cons_self ..)
  ·rcases adds_new l _ s hs with h | h
   ·rcases key s h with h | h
    ·exact .inl h
    ·exact .inr (by rw [h]; exact List.mem_cons_self ..)
   ·exact .inr (List.mem_cons_of_mem _ h)
theorem flatMap_eq {γ δ : Type} {f g : γ -> List δ} : ∀ l : List γ, (∀ a ∈ l, f a = g a) -> l.flatMap f = l.flatMap g
 | [], _ => rfl
 | a :: l, h => by rw [List.flatMap_cons, List.flatMap_cons, h a (List.mem_cons_self ..), flatMap_eq l fun b hb => h b (List.mem_cons_of_mem _ hb)]
theorem tup_congr {sz sz' : Nat -> List α} {k : Nat} (hk : 1 <= k) (h : ∀ j, j ≠ k -> sz' j = sz j) (r : RuB α) : tupB sz' k r = tupB sz k r := by
 unfold tupB
 rw [h (k - 1) (by omega)]
 congr 2
 exact flatMap_eq _ fun a ha => by
  rw [List.mem_range] at ha
  rw [h (a + 1) (by omega), h (k - 1 - (a + 1)) (by omega)]
theorem stage_more (hi : InsOk ins) (k : Nat) : ∀ (rs : List (RuB α)) (F : FamB α β), MoreB F (stageB val ins F k rs).1 k
 | [], F => .refl F k
 | r :: rs, F => by
  rw [stageB]
  split
  ·exact adds_more hi k _ F
  ·exact (adds_more hi k _ F).trans (stage_more hi k rs _)
theorem stage_inv (hi : InsOk ins) {k : Nat} (hk : 1 <= k) : ∀ (rs : List (RuB α)) (F : FamB α β), InvB val F k -> InvB val (stageB val ins F k rs).1 k
 | [], _, h => h
 | r :: rs, F, h => by
  rw [stageB]
  split
  ·exact adds_inv hi hk _ F h
  ·exact stage_inv hi hk rs _ (adds_inv hi hk _ F h)
theorem stage_new (hi : InsOk ins) {k : Nat} (hk : 1 <= k) : ∀ (rs : List (RuB α)) (F : FamB α β), ∀ s ∈ (stageB val ins F k rs).1.sizes k, s ∈ F.sizes k \/ ∃ r ∈ rs, ResB.ok s ∈ tupB F.sizes k r
 | [], _, s, hs => .inl hs
 | r0 :: rs, F, s, hs => by
  rw [stageB] at hs
  split at hs
  ·rcases adds_new _ F s hs with h | h
   ·exact .inl h
   ·exact .inr ⟨r0, List.mem_cons_self .., h⟩
  ·rcases stage_new hi hk rs _ s hs with h | ⟨r, hr, h⟩
   ·rcases adds_new _ F s h with h | h
    ·exact .inl h
    ·exact .inr ⟨r0, List.mem_cons_self .., h⟩
   ·rw [tup_congr hk (fun j hj => (adds_more hi k _ F).same j hj)] at h
    exact .inr ⟨r, List.mem_cons_of_mem _ hr, h⟩
theorem all_lim {rs : List (RuB α)} {k : Nat} (h : (allB val ins rs (k + 1)).2 = false) : (allB val ins rs k).2 = false /\ allB val ins rs (k + 1) = stageB val ins (allB val ins rs k).1 (k + 1) rs := by
 rw [allB] at h ⊢
 split
 ·rename_i hx; rw [if_pos hx, hx] at h; cases h
 ·rename_i hx
  exact ⟨Bool.eq_false_iff.2 hx, rfl⟩
theorem all_inv (hi : InsOk ins) {rs : List (RuB α)} : ∀ k, (allB val ins rs k).2 = false -> InvB val (allB val ins rs k).1 k
 | 0, _ => ⟨fun j s hs => (by cases hs), fun c hc => (by cases hc), fun _ _ => rfl⟩
 | k + 1, h => by
  obtain ⟨h1, h2⟩ := all_lim h
  rw [h2]
  have ih := all_inv hi k h1
  refine stage_inv hi (by omega) rs _ ⟨ih.low, fun c hc => ?_, fun j hj => ih.none j (by omega)⟩
  obtain ⟨j, s, a, b, c1, d⟩ := ih.from_ c hc
  exact ⟨j, s, a, by omega, c1, d⟩
theorem all_back (hi : InsOk ins) {rs : List (RuB α)} : ∀ d k, (allB val ins rs (k + d)).2 = false -> (allB val ins rs k).2 = false /\ (∀ j, j <= k -> (allB val ins rs (k + d)).1.sizes j = (allB val ins rs k).1.sizes j) /\ ∀ c ∈ (allB val ins rs k).1.known, c ∈ (allB val ins rs (k + d)).1.known
 | 0, _, h => ⟨h, fun _ _ => rfl, fun _ hc => hc⟩
 | d + 1, k, h => by
  obtain ⟨h1, h2⟩ := all_lim (k := k + d) h
  obtain ⟨a, b, c⟩ := all_back hi d k h1
  have hm := stage_more hi (val := val) (k + d + 1) rs (allB val ins rs (k + d)).1
  refine ⟨a, fun j hj => ?_, fun x hx => ?_⟩
  ·rw [show k + (d + 1) = k + d + 1 by omega, h2, hm.same j (by omega)]; exact b j hj
  ·rw [show k + (d + 1) = k + d + 1 by omega, h2]; exact hm.known x (c x hx)
end
end Go.AM
namespace Go.AM
section
variable {α β : Type} [DecidableEq β] {val : α -> β} {ins : List β -> β -> List β}
theorem chain_from (hi : InsOk ins) {rs : List (RuB α)} (hp : ∀ r ∈ rs, r.p <= 1) {N : Nat} (hN1 : 1 <= N) (hN : (allB val ins rs (N + 1)).2 = false) {c : β} (hc : c ∈ (allB val ins rs (N + 1)).1.known) :
  c ∈ (allB val ins rs N).1.known \/ ∃ r ∈ rs, r.p = 1 /\ ∃ t s, val t ∈ (allB val ins rs N).1.known /\ r.ap [t] = .ok s /\ val s = c := by
 obtain ⟨j, s, j1, j2, hs, hv⟩ := (all_inv hi (N + 1) hN).from_ c hc
 obtain ⟨h0, hk, _⟩ := all_back hi 1 N hN
 have hinv := all_inv hi N h0
 by_cases h : j <= N
 ·rw [hk j h] at hs
  exact .inl (by rw [<- hv]; exact hinv.low j s hs)
 ·have hj : j = N + 1 := by omega
  subst hj
  obtain ⟨_, e⟩ := all_lim hN
  rw [e] at hs
  rcases stage_new hi (by omega) rs _ s hs with h' | ⟨r, hr, h'⟩
  ·rw [hinv.none _ (by omega)] at h'; cases h'
  ·unfold tupB at h'
   by_cases h3 : r.p = 0
   ·rw [if_pos h3, if_neg (by omega)] at h'; cases h'
   ·have h4 : r.p = 1 := by have := hp r hr; omega
    rw [if_neg h3, if_pos h4, List.mem_map] at h'
    obtain ⟨t, ht, hst⟩ := h'
    exact .inr ⟨r, hr, h4, t, s, hinv.low _ t ht, hst, hv⟩
theorem add_len (hl : InsLen ins) (F : FamB α β) (k : Nat) (x : ResB α) : (addB val ins F k x).1.known.length <= F.known.length + 1 /\ ((addB val ins F k x).1.sizes k).length <= (F.sizes k).length + 1 := by
 unfold addB
 split
 ·exact ⟨Nat.le_succ _, Nat.le_succ _⟩
 ·exact ⟨Nat.le_succ _, Nat.le_succ _⟩
 ·split
  ·exact ⟨Nat.le_succ _, Nat.le_succ _⟩
  ·split
   ·exact ⟨Nat.le_succ _, Nat.le_succ _⟩
   ·refine ⟨by simp only; rw [hl]; exact Nat.le_refl _, ?_⟩
    simp
theorem add_fine {F : FamB α β} {k : Nat} {x : ResB α} (hx : x ≠ .limit) (h : F.known.length < 256) : (addB val ins F k x).2 = false := by
 unfold addB
 split
 ·exact absurd rfl hx
 ·rfl
 ·split
  ·rfl
  ·split
   ·omega
   ·rfl
theorem adds_len (hl : InsLen ins) (k : Nat) : ∀ (l : List (ResB α)) (F : FamB α β), (addsB val ins F k l).1.known.length <= F.known.length + l.length /\ ((addsB val ins F k l).1.sizes k).length <= (F.sizes k).length + l.length
 | [], F => ⟨Nat.le_refl _, Nat.le_refl _⟩
 | x :: l, F => by
  obtain ⟨a1, a2⟩ := add_len (val := val) hl F k x
  rw [addsB, List.length_cons]
  split
  ·exact ⟨by omega, by omega⟩
  ·obtain ⟨b1, b2⟩ := adds_len hl k l (addB val ins F k x).1
   exact ⟨by omega, by omega⟩
theorem adds_fine (hl : InsLen ins) (k : Nat) : ∀ (l : List (ResB α)) (F : FamB α β), (∀ x ∈ l, x ≠ .limit) -> F.known.length + l.length <= 256 -> (addsB val ins F k l).2 = false
 | [], _, _, _ => rfl
 | x :: l, F, hx, h => by
  rw [List.length_cons] at h
  obtain ⟨a1, _⟩ := add_len (val := val) hl F k x
  have hf := add_fine (val := val) (ins := ins) (F := F) (k := k) (hx x (List.mem_cons_self ..)) (by omega)
  rw [addsB, hf, if_neg (by simp)]
  exact adds_fine hl k l _ (fun y hy => hx y (List.mem_cons_of_mem _ hy)) (by omega)
theorem stage_fine (hl : InsLen ins) (hi : InsOk ins) {k n : Nat} (hk : 1 <= k) : ∀ (rs : List (RuB α)) (F : FamB α β), (∀ r ∈ rs, (tupB F.sizes k r).length <= n /\ ∀ x ∈ tupB F.sizes k r, x ≠ .limit) -> F.known.length + rs.length * n <= 256 ->
  (stageB val ins F k rs).2 = false /\ (stageB val ins F k rs).1.known.length <= F.known.length + rs.length * n /\ ((stageB val ins F k rs).1.sizes k).length <= (F.sizes k).length + rs.length * n
 | [], F, _, h => ⟨rfl, by simp [stageB], by simp [stageB]⟩
 | r :: rs, F, hr, h => by
  rw [List.length_cons, Nat.succ_mul] at h
  obtain ⟨r1, r2⟩ := hr r (List.mem_cons_self ..)
  have hf := adds_fine (val := val) hl k (tupB F.sizes k r) F r2 (by omega)
  obtain ⟨l1, l2⟩ := adds_len (val := val) hl k (tupB F.sizes k r) F
  have hm := adds_more hi (val := val) k (tupB F.sizes k r) F
  obtain ⟨s1, s2, s3⟩ := stage_fine hl hi hk rs (addsB val ins F k (tupB F.sizes k r)).1 (fun q hq => by
   rw [tup_congr hk fun j hj => hm.same j hj]
   exact hr q (List.mem_cons_of_mem _ hq)) (by omega)
  rw [stageB, hf, if_neg (by simp), List.length_cons, Nat.succ_mul]
  exact ⟨s1, by omega, by omega⟩
end
end Go.AM
namespace Go.AM
open Go Go.Proofs Go.RowKit
set_option maxRecDepth 100000
set_option maxHeartbeats 8000000
theorem con_rorderI (x y : Int) : Con Tryz.prog 81 [vi x, vi y] [] fun r _ => r = vi (ordI x y) := by
 refine Con.intro Tryz.func81 rfl Tryz.ntmps81 Tryz.results81 (by kernel_rfl) (by simp) 0 (by simp) ?_
 by_cases h1 : x < y
 ·have e : ordI x y = -1 := by unfold ordI; rw [if_pos h1]
  simp only [go_sem, h1, e]
 by_cases h2 : y < x
 ·have e : ordI x y = 1 := by unfold ordI; rw [if_neg h1, if_pos h2]
  simp only [go_sem, h1, h2, e]
 ·have e : ordI x y = 0 := by unfold ordI; rw [if_neg h1, if_neg h2]
  simp only [go_sem, h1, h2, e]
theorem con_rcompare : ∀ (N : Nat) (a b : CV), SizeOf.sizeOf a <= N -> a.Ok -> b.Ok -> Con Tryz.prog 51 [vV a, vV b] [] fun r _ => r = vi (cmpV a b) := by
 intro N
 induction N with
 | zero => intro a b hN; cases a; simp at hN
 | succ N ih =>
 intro a b hN ha hb
 have hrec : ∀ x ∈ a.kids, ∀ y ∈ b.kids, Con Tryz.prog 51 [vV x, vV y] [] fun r _ => r = vi (cmpV x y) := fun x hx y hy => ih x y (by have := kid_size hx; omega) (ha.kid hx) (hb.kid hy)
 have hal := ha.len
 have hbl := hb.len
 rw [vV_eq a, vV_eq b]
 have hcmp : cmpV a b = if a.n ≠ b.n then ordI a.n b.n else if a.kids.length ≠ b.kids.length then ordI a.kids.length b.kids.length else cmpVs a.kids b.kids := by cases a; cases b; rw [cmpV]; rfl
 refine Con.intro Tryz.func51 rfl Tryz.ntmps51 Tryz.results51 (by kernel_rfl) (by simp) 0 (by simp) ?_
 simp only [go_sem]
 by_cases h1 : a.n = b.n
 case neg =>
  have h1' : (a.n != b.n) = true := bne_iff_ne.2 h1
  rw [if_pos h1] at hcmp
  simp only [go_sem, h1']
  refine CallU.free (con_rorderI a.n b.n) (by simp only [go_sem]) (by simp only [go_sem]) ?_
  rintro r bx rfl
  simp only [go_sem, hcmp]
 have h1' : (a.n != b.n) = false := by simp [h1]
 rw [if_neg (fun h => h h1)] at hcmp
 by_cases h2 : a.kids.length = b.kids.length
 case neg =>
  rw [if_pos h2] at hcmp
  simp only [go_sem, h1', h2]
  refine CallU.free (con_rorderI a.kids.length b.kids.length) (by simp only [go_sem]) (by simp only [go_sem]) ?_
  rintro r bx rfl
  simp only [go_sem, hcmp]
 rw [if_neg (fun h => h h2)] at hcmp
 simp only [go_sem, h1', h2]
 refine LoopK.intro (fun i : Nat => ⟨52, [(2, .pb 0 0), (3, .pb 1 0), (5, vi i)], [[vi a.n, .sl 0 2 (a.kids.map vV)], [vi b.n, .sl 0 2 (b.kids.map vV)]]⟩)
  (fun i => a.kids.length - i) (fun i => i <= a.kids.length /\ cmpVs (a.kids.drop i) (b.kids.drop i) = cmpVs a.kids b.kids) 0 ⟨by omega, rfl⟩ ?_ ?_
 ·simp only [go_sem]
 rintro i ⟨hi, he⟩
 by_cases h : i < a.kids.length
 case neg =>
  have e : cmpVs a.kids b.kids = 0 := by rw [<- he, List.drop_of_length_le (by omega), List.drop_of_length_le (by omega)]; rfl
  rw [e] at hcmp
  have h' : ¬ (i < b.kids.length) := by omega
  simp only [go_sem, h2, h', hcmp]
 have h' : i < b.kids.length := by omega
 have hw : IntKind.i64.wrap (i + 1) = i + 1 := wrap_in (by omega) (by omega)
 have g1 := getvV h
 have g2 := getvV h'
 have d1 : a.kids.drop i = a.kids[i]! :: a.kids.drop (i + 1) := by rw [<- List.getElem_cons_drop h, <- getElem!_pos a.kids i h]
 have d2 : b.kids.drop i = b.kids[i]! :: b.kids.drop (i + 1) := by rw [<- List.getElem_cons_drop h', <- getElem!_pos b.kids i h']
 rw [d1, d2, cmpVs] at he
 have hc := hrec _ (mem_bangI h) _ (mem_bangI h')
 rw [vV_eq a.kids[i]!, vV_eq b.kids[i]!] at hc
 simp only [go_sem, h', h2]
 refine DrawK.walk 10 mixed (by kernel_rfl) ?_
 simp only [go_sem, h', h2, g1, g2]
 refine CallU.free hc (by simp only [go_sem]) (by simp only [go_sem]) ?_
 rintro r bx rfl
 by_cases h4 : cmpV a.kids[i]! b.kids[i]! = 0
 ·have h5 : (cmpV a.kids[i]! b.kids[i]! != 0) = false := by rw [h4]; rfl
  rw [if_neg (fun h' => h' h4)] at he
  simp only [go_sem, h5, hw]
  refine roundK.intro (i + 1) ⟨by omega, he⟩ (by omega) ?_
  simp only [go_sem]
 ·have h5 : (cmpV a.kids[i]! b.kids[i]! != 0) = true := bne_iff_ne.2 h4
  rw [if_pos h4] at he
  rw [<- he] at hcmp
  simp only [go_sem, h5, hcmp]
end Go.AM
namespace Go.AM
open Go Go.Proofs Go.RowKit
set_option maxRecDepth 100000
set_option maxHeartbeats 8000000
theorem rangeB_at {n p : Nat} {f : Nat -> Int} (h : p < n) : ((List.range n).map f)[p]! = f p := by
 rw [getElem!_pos _ p (by simpa using h)]; simp
end Go.AM
namespace Go.AM
theorem mod_set {α : Type} {f : α -> α} : ∀ {L : List α} {i : Nat} {a : α}, L[i]? = some a -> L.modify i f = L.set i (f a)
 | [], _, _, h => by simp at h
 | x :: L, 0, a, h => by
  have : x = a := by simpa using h
  subst this; rfl
 | x :: L, i + 1, a, h => by
  have := mod_set (f := f) (L := L) (i := i) (a := a) (by simpa using h)
  rw [List.modify_succ_cons, this]; rfl
end Go.AM
namespace Go.AM
open Go Go.Proofs Go.RowKit
def noR (m : MD) (st : CV) : MD := { m with rules := [], start := st }
end Go.AM
namespace Go.AM
open Go Go.Proofs Go.RowKit
structure OwnX (m : MD) : Prop where
 kind : betweenB m.kind 1 6 = true
 sized : sizedB (noR m zeroV) = true
 ranked : rankedB m = true
 names : namesB (m.states ++ m.places ++ m.letters) = true
 sizes : ∀ s ∈ m.states ++ m.places ++ m.letters, s.size <= 9223372036854775806
end Go.AM
namespace Go.AM
open Go Go.Proofs Go.RowKit
theorem names_g {k : Int} {ns np nl c : Nat} (h1 : 1 <= ns /\ ns <= 3) (h2 : np <= 3) (h3 : nl <= 3) (h4 : c <= 4) : namesB (nmL qB ns ++ nmL (plB k) np ++ nmL lB nl ++ rkL c c) = true := by
 have key : ∀ p ∈ [cB, pB], ∀ a ∈ [1, 2, 3], ∀ b ∈ [0, 1, 2, 3], ∀ d ∈ [0, 1, 2, 3], ∀ c ∈ [0, 1, 2, 3, 4], namesB (nmL qB a ++ nmL p b ++ nmL lB d ++ rkL c c) = true := by
  have : ([cB, pB].all fun p => [1, 2, 3].all fun a => [0, 1, 2, 3].all fun b => [0, 1, 2, 3].all fun d => [0, 1, 2, 3, 4].all fun c => namesB (nmL qB a ++ nmL p b ++ nmL lB d ++ rkL c c)) = true := by kernel_rfl
  intro p hp a ha b hb d hd c hc
  exact List.all_eq_true.1 (List.all_eq_true.1 (List.all_eq_true.1 (List.all_eq_true.1 (List.all_eq_true.1 this p hp) a ha) b hb) d hd) c hc
 refine key (plB k) ?_ ns (by simp; omega) np (by simp; omega) nl (by simp; omega) c (by simp; omega)
 unfold plB
 split <;> simp
theorem nm_size {a : ByteArray} {n : Nat} (ha : a.size <= 10) : ∀ s ∈ nmL a n, s.size <= 9223372036854775806 := fun s hs => by
 obtain ⟨i, _, rfl⟩ := List.mem_map.1 hs
 have e : (nm1 a i).size = a.size + 1 := by unfold nm1; rw [ByteArray.size_append]; rfl
 omega
section
variable {k : Int} {ns np nl : Nat} {ra : List Int} {lv ag : Int} {rules : List RD} {st : CV}
theorem NumOk.few (h : NumOk k ns np nl ra lv ag) : np <= 3 /\ nl <= 3 := by
 have := h.kind; have := h.places; have := h.letters
 omega
theorem NumOk.sized (h : NumOk k ns np nl ra lv ag) (hr : rules.length <= 12) : sizedB (dealtG k ns np nl ra lv ag rules st) = true := by
 have h1 := h.kind; have h2 := h.states; have h3 := h.places; have h4 := h.letters; have h5 := h.levels; have h6 := h.age
 have l1 : (dealtG k ns np nl ra lv ag rules st).states.length = ns := nmL_len _ _
 have l2 : (dealtG k ns np nl ra lv ag rules st).places.length = np := nmL_len _ _
 have l3 : (dealtG k ns np nl ra lv ag rules st).letters.length = nl := nmL_len _ _
 unfold sizedB betweenB
 rw [l1, l2, l3]
 show (decide ((1 : Int) <= ns) && decide ((ns : Int) <= 8) && decide (rules.length <= 12) && (decide (lim k 0 <= np) && decide ((np : Int) <= lim k 1)) && (decide (lim k 2 <= nl) && decide ((nl : Int) <= lim k 3)) && (decide (lim k 4 <= lv) && decide (lv <= lim k 5)) && (decide (lim k 6 <= ag) && decide (ag <= lim k 7))) = true
 obtain rfl | rfl | rfl | rfl | rfl | rfl : k = 1 \/ k = 2 \/ k = 3 \/ k = 4 \/ k = 5 \/ k = 6 := by omega
 all_goals simp only [Bool.and_eq_true, decide_eq_true_eq]
 ·have e : lim 1 0 = 1 /\ lim 1 1 = 6 /\ lim 1 2 = 0 /\ lim 1 3 = 0 /\ lim 1 4 = 0 /\ lim 1 5 = 0 /\ lim 1 6 = 0 /\ lim 1 7 = 0 := by decide
  omega
 ·have e : lim 2 0 = 1 /\ lim 2 1 = 2 /\ lim 2 2 = 1 /\ lim 2 3 = 6 /\ lim 2 4 = 0 /\ lim 2 5 = 0 /\ lim 2 6 = 0 /\ lim 2 7 = 0 := by decide
  omega
 ·have e : lim 3 0 = 1 /\ lim 3 1 = 2 /\ lim 3 2 = 1 /\ lim 3 3 = 6 /\ lim 3 4 = 0 /\ lim 3 5 = 0 /\ lim 3 6 = 0 /\ lim 3 7 = 0 := by decide
  omega
 ·have e : lim 4 0 = 0 /\ lim 4 1 = 0 /\ lim 4 2 = 1 /\ lim 4 3 = 6 /\ lim 4 4 = 1 /\ lim 4 5 = 2 /\ lim 4 6 = 0 /\ lim 4 7 = 0 := by decide
  omega
 ·have e : lim 5 0 = 1 /\ lim 5 1 = 6 /\ lim 5 2 = 0 /\ lim 5 3 = 0 /\ lim 5 4 = 0 /\ lim 5 5 = 0 /\ lim 5 6 = 0 /\ lim 5 7 = 3 := by decide
  omega
 ·have e : lim 6 0 = 1 /\ lim 6 1 = 6 /\ lim 6 2 = 0 /\ lim 6 3 = 0 /\ lim 6 4 = 0 /\ lim 6 5 = 0 /\ lim 6 6 = 0 /\ lim 6 7 = 0 := by decide
  omega
theorem NumOk.ranked (h : NumOk k ns np nl ra lv ag) : rankedB (dealtG k ns np nl ra lv ag rules st) = true := by
 have l3 : (dealtG k ns np nl ra lv ag rules st).letters.length = nl := nmL_len _ _
 unfold rankedB
 rw [l3]
 show (if k = 3 then decide (ra.length = nl) && ra.all fun r => betweenB r 0 5 else ra.length == 0) = true
 by_cases h3 : k = 3
 ·obtain ⟨a, b⟩ := h.ranks.1 h3
  rw [if_pos h3, decide_eq_true a, Bool.true_and, List.all_eq_true]
  intro x hx
  have := b x hx
  unfold betweenB
  rw [decide_eq_true this.1, decide_eq_true (by omega)]; rfl
 ·rw [if_neg h3, h.ranks.2 h3]; rfl
theorem NumOk.between (h : NumOk k ns np nl ra lv ag) : betweenB k 1 6 = true := by
 unfold betweenB
 rw [decide_eq_true h.kind.1, decide_eq_true h.kind.2]; rfl
theorem NumOk.own (h : NumOk k ns np nl ra lv ag) : OwnX (dealtG k ns np nl ra lv ag rules st) := by
 have hf := h.few
 refine ⟨h.between, h.sized (rules := []) (st := zeroV) (by simp), h.ranked, ?_, fun s hs => ?_⟩
 ·have := names_g (k := k) (c := 0) h.states hf.1 hf.2 (by omega)
  rw [show rkL 0 0 = [] from rfl, List.append_nil] at this
  exact this
 ·rcases List.mem_append.1 hs with hs | hs
  ·rcases List.mem_append.1 hs with hs | hs
   ·exact nm_size (a := qB) (by decide) s hs
   ·refine nm_size (a := plB k) ?_ s hs
    unfold plB; split <;> decide
  ·exact nm_size (a := lB) (by decide) s hs
end
section
variable {k : Int} {ns np nl : Nat} {ra : List Int} {lv ag : Int} {rules : List RD} {st : CV}
theorem DealtG.len (h : DealtG k ns np nl ra lv ag rules st) : LenM (dealtG k ns np nl ra lv ag rules st) := by
 have hn := h.num
 have hf := hn.few
 have h4 := h.few
 have e : namesOf (dealtG k ns np nl ra lv ag rules st) = nmL qB ns ++ nmL (plB k) np ++ nmL lB nl ++ rules.map RD.name := rfl
 have hs := hn.states
 refine ⟨?_, ?_, ?_, fun r hr => (h.rules r hr).2, h.slim.ok⟩
 ·rw [e]
  simp only [List.length_append, List.length_map, nmL_len]
  omega
 ·rw [e]
  intro s hs
  rcases List.mem_append.1 hs with hs | hs
  ·exact hn.own (rules := []) (st := zeroV) |>.sizes s hs
  ·rw [h.names] at hs
   obtain ⟨i, _, rfl⟩ := List.mem_map.1 hs
   have e : (nm1 rB (rules.length - i)).size = rB.size + 1 := by unfold nm1; rw [ByteArray.size_append]; rfl
   have : rB.size = 1 := rfl
   omega
 ·show ra.length <= _
  by_cases h3 : k = 3
  ·have := (hn.ranks.1 h3).1; omega
  ·rw [hn.ranks.2 h3]; simp
theorem DealtG.check (h : DealtG k ns np nl ra lv ag rules st) : checkF (dealtG k ns np nl ra lv ag rules st) = 0 := by
 have hn := h.num
 have hf := hn.few
 have h1 : betweenB (dealtG k ns np nl ra lv ag rules st).kind 1 6 = true := hn.between
 have h2 : sizedB (dealtG k ns np nl ra lv ag rules st) = true := hn.sized (by have := h.few; omega)
 have h3 : rankedB (dealtG k ns np nl ra lv ag rules st) = true := hn.ranked
 have h4 : namesB (namesOf (dealtG k ns np nl ra lv ag rules st)) = true := by
  show namesB (nmL qB ns ++ nmL (plB k) np ++ nmL lB nl ++ rules.map RD.name) = true
  rw [h.names]
  exact names_g hn.states hf.1 hf.2 h.few
 have h5 : ((dealtG k ns np nl ra lv ag rules st).rules.any fun r => !rightR (dealtG k ns np nl ra lv ag rules st) r) = false := by
  rw [List.any_eq_false]
  intro r hr
  have := (h.rules r hr).1
  have e : rightR (dealtG k ns np nl ra lv ag rules st) r = rightR (dealtG k ns np nl ra lv ag [] zeroV) r := rfl
  rw [e, this]; decide
 have h6 : beginsF (dealtG k ns np nl ra lv ag rules st) = true := by
  have hs := h.start
  unfold beginsF
  by_cases k6 : k = 6
  ·rw [if_pos k6] at hs
   rw [if_pos (show (dealtG k ns np nl ra lv ag rules st).kind = 6 from k6), hs]; rfl
  ·rw [if_neg k6] at hs
   rw [if_neg (show ¬ (dealtG k ns np nl ra lv ag rules st).kind = 6 from k6)]
   exact hs
 unfold checkF
 rw [h1, h2, h3, h4, h5, h6]
 simp only [Bool.true_eq_false, Bool.false_eq_true, if_false]
end
end Go.AM
namespace Go.AM
open Go Go.Proofs Go.RowKit
set_option maxRecDepth 100000
theorem dealt_bra {ns np nl : Nat} {ra : List Int} {lv ag : Int} {rules : List RD} {st : CV} (h : DealtG 6 ns np nl ra lv ag rules st) : kindF (dealtG 6 ns np nl ra lv ag rules st) = 0 := by
 have h1 := h.check
 unfold kindF
 rw [if_neg (fun h => h h1), if_neg (fun h => h rfl)]
end Go.AM
namespace Go.Proofs.YtiklkcjkmhkgjaaGreat
open Go.ChangeShapes Go.WideShapes Go.ChangeAt Go.RowKit Go.AM
theorem branchingChainsC0 : (Rows.branchingChainsRow.wf (OpenSpec.ofChange Rows.branchingChainsSpec)) = true := by kernel_rfl
theorem branchingChainsC3 : (Tryz.f7.params.all (Tryz.prog.readableRec ·)) = true := by kernel_rfl
theorem branchingChainsC4 : (namedTie Tryz.prog Rows.branchingChainsRow.named Rows.branchingChainsSpec.vars) = true := by kernel_rfl
theorem branchingChainsC5 : ((Rows.branchingChainsRow.stops == [])) = true := by kernel_rfl
theorem branchingChainsC6 : ((Tryz.prog.stops == [])) = true := by kernel_rfl
theorem branchingChainsC7 : ((Rows.branchingChainsRow.knobs == [])) = true := by kernel_rfl
theorem branchingChainsC8 : ((Tryz.prog.stopKnobs == [])) = true := by kernel_rfl
theorem branchingChainsC9 : ((Rows.branchingChainsRow.inPlace == Tryz.prog.inPlace 7)) = true := by kernel_rfl
theorem branchingChainsC10 : ((Rows.branchingChainsRow.unfollowed == Tryz.prog.unfollowed 7)) = true := by kernel_rfl
theorem branchingChainsC11 : ((Rows.branchingChainsRow.recurses == Tryz.prog.recurses 7)) = true := by kernel_rfl
theorem branchingChainsC12 : ((Rows.branchingChainsRow.named == Tryz.prog.varsNamed 7)) = true := by kernel_rfl
theorem branchingChainsC13 : ((Rows.branchingChainsRow.maps == (Tryz.f7.params.toList ++ Rows.branchingChainsSpec.plain.varTypes Tryz.prog).any (Tryz.prog.mapsRec ·))) = true := by kernel_rfl
theorem branchingChainsC14 : ((Rows.branchingChainsRow.ifaces == (Tryz.f7.params.toList ++ Rows.branchingChainsSpec.plain.varTypes Tryz.prog).any (Tryz.prog.ifacesRec ·))) = true := by kernel_rfl
theorem branchingChainsC15 : ((Rows.branchingChainsRow.mapsOut == Tryz.prog.mapsAmong Tryz.f7.resultTypes.toList)) = true := by kernel_rfl
theorem branchingChainsC16 : ((Rows.branchingChainsRow.loops == (Tryz.f7.params.toList ++ Rows.branchingChainsSpec.plain.varTypes Tryz.prog).any (Tryz.prog.loopsFrom ·))) = true := by kernel_rfl
theorem branchingChainsC17 : ((Rows.branchingChainsRow.wideKeys == (Tryz.f7.params.toList ++ Rows.branchingChainsSpec.plain.varTypes Tryz.prog ++ Tryz.f7.resultTypes.toList).any (Tryz.prog.wideKeysFrom ·))) = true := by kernel_rfl
theorem branchingChainsC18 : (Rows.branchingChainsSpec.vars.all (Tryz.prog.varReadable ·)) = true := by kernel_rfl
theorem branchingChainsC19 : (Tryz.f7.resultTypes.all (fun t => Tryz.prog.readableRec t && decide (t < Tryz.prog.types.size))) = true := by kernel_rfl
theorem branchingChainsC20 : ((Rows.branchingChainsRow.ifacesOut == Tryz.f7.resultTypes.toList.any (Tryz.prog.ifacesRec ·))) = true := by kernel_rfl
theorem branchingChainsC21 : ((Rows.branchingChainsRow.loopsOut == Tryz.f7.resultTypes.toList.any (Tryz.prog.loopsFrom ·))) = true := by kernel_rfl
theorem branchingChainsC22 : ((Rows.branchingChainsRow.plainKeys == Tryz.prog.plainKeys)) = true := by kernel_rfl
theorem branchingChainsC23 : (Rows.branchingChainsRow.shortTexts.isNone) = true := by kernel_rfl
theorem branchingChainsC27 : ((Tryz.prog.make == some Rows.branchingChainsRow.make)) = true := by kernel_rfl
theorem branchingChainsC28 : ((Rows.branchingChainsRow.kinds == (if Rows.branchingChainsRow.domain.isEmpty then [] else Tryz.f7.params.toList.map fun t => match Tryz.prog.underlying t with | some (.int k) => some k | _ => none))) = true := by kernel_rfl
theorem branchingChainsC29 : ((Rows.branchingChainsRow.pinned == Rows.branchingChainsRow.pinnedBy)) = true := by kernel_rfl
theorem branchingChainsC30 : ((Rows.branchingChainsRow.veiled == (Tryz.f7.params.toList ++ Rows.branchingChainsSpec.plain.varTypes Tryz.prog ++ Tryz.f7.resultTypes.toList).any (Tryz.prog.veiledRec ·))) = true := by kernel_rfl
theorem branchingChainsC31 : (Rows.branchingChainsRow.veiledFits Tryz.prog Tryz.f7.params.toList (Tryz.f7.params.toList ++ Rows.branchingChainsSpec.plain.varTypes Tryz.prog ++ Tryz.f7.resultTypes.toList)) = true := by kernel_rfl
end Go.Proofs.YtiklkcjkmhkgjaaGreat
namespace Go.Proofs.YtiklkcjkmhkgjaaGreat
open Go.ChangeShapes Go.WideShapes Go.ChangeAt Go.RowKit Go.AM
set_option maxRecDepth 100000
theorem branchingChainsClosed : joinedFacts Tryz.prog 7 Tryz.f7 Rows.branchingChainsSpec Rows.branchingChainsRow = true := by
 unfold joinedFacts
 exact and_mk (and_mk (and_mk (and_mk (and_mk (and_mk (and_mk (and_mk (and_mk (and_mk (and_mk (and_mk (and_mk (and_mk (and_mk (and_mk (and_mk (and_mk (and_mk (and_mk (and_mk (and_mk (and_mk (and_mk (and_mk (and_mk (and_mk (and_mk (and_mk (and_mk (and_mk branchingChainsC0 cLaid) cRowed) branchingChainsC3) branchingChainsC4) branchingChainsC5) branchingChainsC6) branchingChainsC7) branchingChainsC8) branchingChainsC9) branchingChainsC10) branchingChainsC11) branchingChainsC12) branchingChainsC13) branchingChainsC14) branchingChainsC15) branchingChainsC16) branchingChainsC17) branchingChainsC18) branchingChainsC19) branchingChainsC20) branchingChainsC21) branchingChainsC22) branchingChainsC23) cHeard) cEnter) cLifts) branchingChainsC27) branchingChainsC28) branchingChainsC29) branchingChainsC30) branchingChainsC31
theorem branchingChainsNamed : Tryz.prog.funcNamed Rows.branchingChainsRow.func = some 7 := by kernel_rfl
end Go.Proofs.YtiklkcjkmhkgjaaGreat
