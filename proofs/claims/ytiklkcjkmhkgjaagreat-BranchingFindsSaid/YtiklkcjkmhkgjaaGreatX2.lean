/-
  what this claim needs beside the texts ahead
-/
import Derived.Test.YtiklkcjkmhkgjaaGreatBrO
namespace Go.AM
open Go.RowKit
theorem leV_tup {xs ys : List AV} (h : leC xs ys) : leV (.tup xs) (.tup ys) := leV_sem fun G w v hv => by
 obtain ⟨vs, rfl, h2⟩ := hv.tup_inv
 have := leC_pw h h2
 exact .tup _ _ this.1 this.2
end Go.AM
namespace Go.AM
section
variable {α β : Type}
end
section
variable {α β : Type} [DecidableEq β] (val : α -> β) (ins : List β -> β -> List β)
variable {val ins}
theorem add_known (hi : InsOk ins) {F : FamB α β} {k : Nat} {s : α} (h : (addB val ins F k (.ok s)).2 = false) : val s ∈ (addB val ins F k (.ok s)).1.known := by
 unfold addB at h ⊢
 simp only at h ⊢
 split
 ·assumption
 ·rename_i hn
  rw [if_neg hn] at h
  split
  ·rename_i h2; rw [if_pos h2] at h; cases h
  ·exact (hi _ _ _).2 (.inr rfl)
theorem adds_known (hi : InsOk ins) {k : Nat} : ∀ (l : List (ResB α)) (F : FamB α β), (addsB val ins F k l).2 = false -> ∀ s, ResB.ok s ∈ l -> val s ∈ (addsB val ins F k l).1.known
 | [], _, _, s, hs => by cases hs
 | x :: l, F, h, s, hs => by
  rw [addsB] at h ⊢
  split
  ·rename_i hx; rw [if_pos hx] at h; rw [hx] at h; cases h
  ·rename_i hx
   rw [if_neg hx] at h
   rcases List.mem_cons.1 hs with hs | hs
   ·subst hs
    exact (adds_more hi k l _).known _ (add_known hi (Bool.eq_false_iff.2 hx))
   ·exact adds_known hi l _ h s hs
theorem stage_known (hi : InsOk ins) {k : Nat} (hk : 1 <= k) : ∀ (rs : List (RuB α)) (F : FamB α β), (stageB val ins F k rs).2 = false -> ∀ r ∈ rs, ∀ s, ResB.ok s ∈ tupB F.sizes k r -> val s ∈ (stageB val ins F k rs).1.known
 | [], _, _, r, hr, _, _ => by cases hr
 | r0 :: rs, F, h, r, hr, s, hs => by
  rw [stageB] at h ⊢
  split
  ·rename_i hx; rw [if_pos hx] at h; rw [hx] at h; cases h
  ·rename_i hx
   rw [if_neg hx] at h
   rcases List.mem_cons.1 hr with hr | hr
   ·subst hr
    exact (stage_more hi k rs _).known _ (adds_known hi _ F (Bool.eq_false_iff.2 hx) s hs)
   ·refine stage_known hi hk rs _ h r hr s ?_
    rw [tup_congr hk (fun j hj => (adds_more hi k _ F).same j hj)]
    exact hs
inductive DerB (rs : List (RuB α)) : Nat -> α -> Prop
 | zero (r : RuB α) (s : α) : r ∈ rs -> r.p = 0 -> r.ap [] = .ok s -> DerB rs 1 s
 | one (r : RuB α) (n : Nat) (t s : α) : r ∈ rs -> r.p = 1 -> DerB rs n t -> r.ap [t] = .ok s -> DerB rs (n + 1) s
 | two (r : RuB α) (a b : Nat) (t u s : α) : r ∈ rs -> 2 <= r.p -> DerB rs a t -> DerB rs b u -> r.ap [t, u] = .ok s -> DerB rs (a + b + 1) s
theorem der_found (hi : InsOk ins) (hv : ∀ s t, val s = val t -> s = t) {rs : List (RuB α)} {N : Nat} (hN : (allB val ins rs N).2 = false) {n : Nat} {s : α} (h : DerB rs n s) : n <= N -> ∃ j, 1 <= j /\ j <= n /\ s ∈ (allB val ins rs N).1.sizes j := by
 -- a stage's results stay
 have stage : ∀ k s, 1 <= k -> k <= N -> (∃ r ∈ rs, ResB.ok s ∈ tupB (allB val ins rs (k - 1)).1.sizes k r) -> ∃ j, 1 <= j /\ j <= k /\ s ∈ (allB val ins rs N).1.sizes j := fun k s h1 h2 ⟨r, hr, hs⟩ => by
  obtain ⟨q, rfl⟩ : ∃ q, k = q + 1 := ⟨k - 1, by omega⟩
  obtain ⟨d, hd⟩ : ∃ d, N = q + 1 + d := ⟨N - (q + 1), by omega⟩
  rw [hd] at hN ⊢
  obtain ⟨a, b, _⟩ := all_back hi d (q + 1) hN
  obtain ⟨c, e⟩ := all_lim a
  rw [Nat.add_sub_cancel] at hs
  have hst := a
  rw [e] at hst
  have hk := stage_known hi (by omega) rs _ hst r hr s hs
  rw [<- e] at hk
  obtain ⟨j, t, j1, j2, ht, hvt⟩ := (all_inv hi (q + 1) a).from_ _ hk
  rw [hv t s hvt] at ht
  exact ⟨j, j1, j2, by rw [b j j2]; exact ht⟩
 -- what is there behind is there in a stage's beginning
 have back : ∀ j k s, j < k -> k <= N -> s ∈ (allB val ins rs N).1.sizes j -> s ∈ (allB val ins rs (k - 1)).1.sizes j := fun j k s h1 h2 hs => by
  obtain ⟨d, hd⟩ : ∃ d, N = k - 1 + d := ⟨N - (k - 1), by omega⟩
  rw [hd] at hN hs
  obtain ⟨_, b, _⟩ := all_back hi d (k - 1) hN
  rw [<- b j (by omega)]; exact hs
 induction h with
 | zero r s hr hp ha =>
  intro hn
  obtain ⟨j, h1, h2, h3⟩ := stage 1 s (Nat.le_refl _) hn ⟨r, hr, by unfold tupB; rw [if_pos hp, if_pos rfl, ha]; exact List.mem_singleton.2 rfl⟩
  exact ⟨j, h1, h2, h3⟩
 | one r n t s hr hp _ ha ih =>
  intro hn
  obtain ⟨j, j1, j2, hj⟩ := ih (by omega)
  obtain ⟨i, i1, i2, hi2⟩ := stage (j + 1) s (by omega) (by omega) ⟨r, hr, by
   unfold tupB
   rw [if_neg (by omega), if_pos hp]
   exact List.mem_map.2 ⟨t, back j (j + 1) t (by omega) (by omega) hj, ha⟩⟩
  exact ⟨i, i1, by omega, hi2⟩
 | two r a b t u s hr hp _ _ ha ih1 ih2 =>
  intro hn
  obtain ⟨j, j1, j2, hj⟩ := ih1 (by omega)
  obtain ⟨k, k1, k2, hk⟩ := ih2 (by omega)
  obtain ⟨i, i1, i2, hi2⟩ := stage (j + k + 1) s (by omega) (by omega) ⟨r, hr, by
   unfold tupB
   rw [if_neg (by omega), if_neg (by omega), List.mem_flatMap]
   refine ⟨j - 1, List.mem_range.2 (by omega), ?_⟩
   rw [List.mem_flatMap]
   refine ⟨t, ?_, List.mem_map.2 ⟨u, ?_, ha⟩⟩
   ·rw [show j - 1 + 1 = j by omega]; exact back j (j + k + 1) t (by omega) (by omega) hj
   ·rw [show j + k + 1 - 1 - (j - 1 + 1) = k by omega]; exact back k (j + k + 1) u (by omega) (by omega) hk⟩
  exact ⟨i, i1, by omega, hi2⟩
end
end Go.AM
namespace Go.AM
open Go Go.Proofs Go.RowKit
set_option maxRecDepth 100000
theorem con_rbetween (x lo hi : Int) : Con Tryz.prog 62 [vi x, vi lo, vi hi] [] fun r _ => r = vb (betweenB x lo hi) := by
 refine Con.intro Tryz.func62 rfl Tryz.ntmps62 Tryz.results62 (by kernel_rfl) (by simp) 0 (by simp) ?_
 unfold betweenB
 by_cases h1 : lo <= x
 ·by_cases h2 : x <= hi
  ·simp only [go_sem, h1, h2, decide_true, Bool.and_true]
  ·simp only [go_sem, h1, h2, decide_true, decide_false, Bool.and_false]
 ·simp only [go_sem, h1, decide_false, Bool.false_and]
theorem between_true {x lo hi : Int} (h1 : lo <= x) (h2 : x <= hi) : betweenB x lo hi = true := by
 unfold betweenB; rw [decide_eq_true h1, decide_eq_true h2]; rfl
theorem con_rletter (c : UInt8) : Con Tryz.prog 117 [u8v c] [] fun r _ => r = vb (partB c) := by
 refine Con.intro Tryz.func117 rfl Tryz.ntmps117 Tryz.results117 (by kernel_rfl) (by simp) 0 (by simp) ?_
 unfold partB
 rw [u8_eq (k := 95) (c := c) (n := 95) rfl, letterB_eq, digitB_eq]
 by_cases h1 : (97 : Int) <= (c.toNat : Int) <;> by_cases h2 : (c.toNat : Int) <= 122 <;> by_cases h3 : (48 : Int) <= (c.toNat : Int) <;> by_cases h4 : (c.toNat : Int) <= 57 <;>
  (simp only [go_sem, h1, h2, h3, h4, decide_true, decide_false, Bool.and_true, Bool.and_false, Bool.true_or, Bool.or_true, Bool.false_or, Bool.or_false]; all_goals simp)
theorem ba_eq {a b : ByteArray} : (a.toList == b.toList) = (a.data.toList == b.data.toList) := by rw [ByteArray.toList_eq, ByteArray.toList_eq]
end Go.AM
namespace Go.AM
open Go Go.Proofs Go.RowKit
set_option maxRecDepth 100000
theorem keyword_no {s : ByteArray} (h : keywordB s = false) {i : Nat} (hi : i < kwL.length) : (kwL[i]!.toList == s.toList) = false := by
 unfold keywordB at h
 rw [List.any_eq_false] at h
 have := h kwL[i]! (mem_bangI hi)
 rw [Bool.not_eq_true] at this
 rw [beq_eq_false_iff_ne] at this ⊢
 exact fun e => this e.symm
theorem kwL_len : kwL.length = 18 := rfl
theorem con_rkeyword (s : ByteArray) (hk : keywordB s = false) : Con Tryz.prog 85 [vStr s] [] fun r _ => r = vb false := by
 refine Con.intro Tryz.func85 rfl Tryz.ntmps85 Tryz.results85 (by kernel_rfl) (by simp) 0 (by simp) ?_
 simp only [go_sem]
 refine LoopK.intro (fun i : Nat => ⟨18, [(0, vStr s), (3, .sl 384 1 (kwL.map vStr)), (4, vi i)], []⟩) (fun i => 18 - i) (fun i => i <= 18) 0 (by omega) ?_ ?_
 ·simp only [go_sem, kwL, List.map_cons, List.map_nil]
 rintro i hi
 by_cases h : i < 18
 ·have hl : i < kwL.length := by rw [kwL_len]; exact h
  have hg := getStr hl
  have hw : IntKind.i64.wrap (i + 1) = i + 1 := wrap_in (by omega) (by omega)
  have hn := keyword_no hk hl
  simp only [go_sem, kwL_len, h, hg, hn, hw]
  refine roundK.intro (i + 1) (by omega) (by omega) ?_
  simp only [go_sem]
 ·simp only [go_sem, kwL_len, h]
def namesTree : Tr := .front 0 (.front 3 (.front 6 (.alt (.one 1 (.alt (.one 2 (.alt (.one 4 (.alt (.one 5 (.one 7 (.one 8 (.one 9 .done)))) (.one 7 (.one 5 (.one 8 (.one 9 .done)))))) (.one 7 (.one 4 (.one 5 (.one 8 (.one 9 .done))))))) (.alt (.one 4 (.alt (.one 2 (.alt (.one 5 (.one 7 (.one 8 (.one 9 .done)))) (.one 7 (.one 5 (.one 8 (.one 9 .done)))))) (.one 7 (.one 2 (.one 5 (.one 8 (.one 9 .done))))))) (.one 7 (.alt (.one 2 (.one 4 (.one 5 (.one 8 (.one 9 .done))))) (.one 4 (.one 2 (.one 5 (.one 8 (.one 9 .done)))))))))) (.alt (.one 4 (.alt (.one 1 (.alt (.one 2 (.alt (.one 5 (.one 7 (.one 8 (.one 9 .done)))) (.one 7 (.one 5 (.one 8 (.one 9 .done)))))) (.one 7 (.one 2 (.one 5 (.one 8 (.one 9 .done))))))) (.one 7 (.one 1 (.one 2 (.one 5 (.one 8 (.one 9 .done)))))))) (.one 7 (.alt (.one 1 (.alt (.one 2 (.one 4 (.one 5 (.one 8 (.one 9 .done))))) (.one 4 (.one 2 (.one 5 (.one 8 (.one 9 .done))))))) (.one 4 (.one 1 (.one 2 (.one 5 (.one 8 (.one 9 .done))))))))))))
end Go.AM
namespace Go.AM
theorem dl_three {rs : Int -> Option (Int × Int)} {x : CV} (h : DlD rs 3 x) : szC x <= 3 := by
 have := dl_size 2 3 x h (by decide)
 have e : capD 2 3 = 3 := by decide
 omega
end Go.AM
namespace Go.AM
section
variable {β : Type} {cmp : β -> β -> Int}
theorem sub_sort (ho : OrdB cmp) : ∀ {m l : List β}, SortB cmp l -> SortB cmp m -> (∀ x ∈ l, x ∈ m) -> l.Sublist m
 | [], l, _, _, h => by
  cases l with
  | nil => exact .slnil
  | cons x l => exact absurd (h x (List.mem_cons_self ..)) (by simp)
 | y :: m, [], _, _, _ => List.nil_sublist _
 | y :: m, x :: l, hl, hm, h => by
  obtain ⟨l1, l2⟩ := List.pairwise_cons.1 hl
  obtain ⟨m1, m2⟩ := List.pairwise_cons.1 hm
  have irr : ∀ a, ¬ cmp a a < 0 := fun a ha => by rw [(ho.zero a a).2 rfl] at ha; omega
  by_cases he : x = y
  ·subst he
   refine List.Sublist.cons_cons _ (sub_sort ho l2 m2 fun z hz => ?_)
   rcases List.mem_cons.1 (h z (List.mem_cons_of_mem _ hz)) with rfl | hz'
   ·exact absurd (l1 _ hz) (irr _)
   ·exact hz'
  ·have hyx : cmp y x < 0 := by
    rcases List.mem_cons.1 (h x (List.mem_cons_self ..)) with hx | hx
    ·exact absurd hx he
    ·exact m1 _ hx
   refine .cons _ (sub_sort ho hl m2 fun z hz => ?_)
   rcases List.mem_cons.1 (h z hz) with rfl | hz'
   ·rcases List.mem_cons.1 hz with rfl | hz2
    ·exact absurd rfl he
    ·exact absurd (ho.trans _ _ _ hyx (l1 _ hz2)) (irr _)
   ·exact hz'
def goB [DecidableEq β] (few : List β) (at_ : Nat) : List β -> Nat
 | [] => at_
 | y :: l => goB few (if few[at_]? = some y then at_ + 1 else at_) l
theorem go_done [DecidableEq β] {few : List β} : ∀ {more : List β} {at_ : Nat}, at_ <= few.length -> (few.drop at_).Sublist more -> goB few at_ more = few.length
 | [], at_, h, hs => by
  have : (few.drop at_).length = 0 := by rw [List.sublist_nil.1 hs]; rfl
  rw [List.length_drop] at this
  rw [goB]; omega
 | y :: l, at_, h, hs => by
  rw [goB]
  by_cases hlt : at_ < few.length
  ·have hd : few.drop at_ = few[at_] :: few.drop (at_ + 1) := List.drop_eq_getElem_cons hlt
   by_cases he : few[at_]? = some y
   ·rw [if_pos he]
    refine go_done (by omega) ?_
    rw [hd] at hs
    rw [List.getElem?_eq_getElem hlt] at he
    injection he with he
    rw [he] at hs
    exact List.cons_sublist_cons.1 hs
   ·rw [if_neg he]
    refine go_done h ?_
    rw [hd] at hs ⊢
    rw [List.getElem?_eq_getElem hlt] at he
    cases hs with
    | cons _ h2 => exact h2
    | cons_cons _ h2 => exact absurd rfl he
  ·have h2 : few[at_]? = none := List.getElem?_eq_none (by omega)
   rw [if_neg (by rw [h2]; simp)]
   refine go_done h ?_
   rw [List.drop_eq_nil_of_le (by omega)]
   exact List.nil_sublist _
theorem go_all [DecidableEq β] (ho : OrdB cmp) {few more : List β} (hf : SortB cmp few) (hm : SortB cmp more) (h : ∀ x ∈ few, x ∈ more) : goB few 0 more = few.length :=
 go_done (Nat.zero_le _) (by rw [List.drop_zero]; exact sub_sort ho hf hm h)
end
end Go.AM
namespace Go.AM
section
variable {α β : Type} [DecidableEq β] {val : α -> β} {cmp : β -> β -> Int}
theorem adds_sort (ho : OrdB cmp) (k : Nat) : ∀ (l : List (ResB α)) {F : FamB α β}, SortB cmp F.known -> SortB cmp (addsB val (insB cmp) F k l).1.known
 | [], _, h => h
 | x :: l, F, h => by
  rw [addsB]
  split
  ·exact add_sort ho k h x
  ·exact adds_sort ho k l (add_sort ho k h x)
theorem stage_sort (ho : OrdB cmp) (k : Nat) : ∀ (rs : List (RuB α)) {F : FamB α β}, SortB cmp F.known -> SortB cmp (stageB val (insB cmp) F k rs).1.known
 | [], _, h => h
 | r :: rs, F, h => by
  rw [stageB]
  split
  ·exact adds_sort ho k _ h
  ·exact stage_sort ho k rs (adds_sort ho k _ h)
theorem all_sort (ho : OrdB cmp) (rs : List (RuB α)) : ∀ k, SortB cmp (allB val (insB cmp) rs k).1.known
 | 0 => .nil
 | k + 1 => by
  rw [allB]
  split
  ·exact all_sort ho rs k
  ·exact stage_sort ho _ rs (all_sort ho rs k)
theorem all_go (ho : OrdB cmp) {rs : List (RuB α)} {k : Nat} (h : (allB val (insB cmp) rs (k + 1)).2 = false) : goB (allB val (insB cmp) rs k).1.known 0 (allB val (insB cmp) rs (k + 1)).1.known = (allB val (insB cmp) rs k).1.known.length :=
 go_all ho (all_sort ho rs k) (all_sort ho rs (k + 1)) (all_back ins_mem 1 k h).2.2
end
end Go.AM
namespace Go.AM
open Go Go.Proofs Go.RowKit
set_option maxRecDepth 100000
set_option maxHeartbeats 8000000
theorem limF_1 : limF 1 = [1, 6, 0, 0, 0, 0, 0, 0] := rfl
theorem limF_2 : limF 2 = [1, 2, 1, 6, 0, 0, 0, 0] := rfl
theorem limF_3 : limF 3 = [1, 2, 1, 6, 0, 0, 0, 0] := rfl
theorem limF_4 : limF 4 = [0, 0, 1, 6, 1, 2, 0, 0] := rfl
theorem limF_5 : limF 5 = [1, 6, 0, 0, 0, 0, 0, 3] := rfl
theorem limF_6 : limF 6 = [1, 6, 0, 0, 0, 0, 0, 0] := rfl
theorem between_zero (x : Int) : betweenB x 0 0 = (x == 0) := by
 unfold betweenB
 rw [Bool.eq_iff_iff]
 simp only [Bool.and_eq_true, decide_eq_true_eq, beq_iff_eq]
 omega
theorem kind_cases {k : Int} (h : betweenB k 1 6 = true) : k = 1 \/ k = 2 \/ k = 3 \/ k = 4 \/ k = 6 \/ k = 5 := by
 unfold betweenB at h
 simp only [Bool.and_eq_true, decide_eq_true_eq] at h
 omega
theorem con_rnumbersG (m : MD) (hb : betweenB m.kind 1 6 = true) : Con Tryz.prog 63 [vM m] [] fun r _ => r = vb (sizedB m) := by
 refine Con.intro Tryz.func63 rfl Tryz.ntmps63 Tryz.results63 (by kernel_rfl) (by simp) 0 (by simp) ?_
 have b1 := con_rbetween m.states.length 1 8
 have b2 := con_rbetween m.places.length (lim m.kind 0) (lim m.kind 1)
 have b3 := con_rbetween m.letters.length (lim m.kind 2) (lim m.kind 3)
 have b4 := con_rbetween m.levels (lim m.kind 4) (lim m.kind 5)
 have b5 := con_rbetween m.age 0 3
 unfold sizedB vM cM
 rcases kind_cases hb with hk | hk | hk | hk | hk | hk
 all_goals
  simp only [hk, lim, limF_1, limF_2, limF_3, limF_4, limF_5, limF_6, List.getD_cons_zero, List.getD_cons_succ] at b2 b3 b4 ⊢
  simp only [go_sem, vss, List.length_map]
  refine CallU.free b1 (by simp only [go_sem]) (by simp only [go_sem]) ?_
  rintro r bx rfl
  cases h1 : betweenB m.states.length 1 8
  ·simp only [go_sem, Bool.false_and]
  rw [Bool.true_and]
  simp only [go_sem, List.length_map]
  refine CallU.free b2 (by simp only [go_sem]) (by simp only [go_sem]) ?_
  rintro r bx rfl
  rw [Bool.and_comm (decide _) (betweenB _ _ _)]
  generalize betweenB m.places.length _ _ = p2
  cases p2
  ·simp only [go_sem, Bool.false_and]
  rw [Bool.true_and]
  by_cases h4 : (12 : Int) < m.rules.length
  ·have h5 : ¬ m.rules.length <= 12 := by omega
   simp only [go_sem, List.length_map, h4, h5, decide_false, Bool.false_and]
  have h5 : m.rules.length <= 12 := by omega
  rw [decide_eq_true h5, Bool.true_and]
  simp only [go_sem, List.length_map, h4]
  refine CallU.free b3 (by simp only [go_sem]) (by simp only [go_sem]) ?_
  rintro r bx rfl
  generalize betweenB m.letters.length _ _ = p3
  cases p3
  ·simp only [go_sem, Bool.false_and]
  rw [Bool.true_and]
  simp only [go_sem]
  refine CallU.free b4 (by simp only [go_sem]) (by simp only [go_sem]) ?_
  rintro r bx rfl
  generalize betweenB m.levels _ _ = p4
  cases p4
  ·simp only [go_sem, Bool.false_and]
  rw [Bool.true_and]
  simp only [go_sem]
 ·rw [between_zero]
 ·rw [between_zero]
 ·rw [between_zero]
 ·rw [between_zero]
 ·rw [between_zero]
 ·refine CallU.free b5 (by simp only [go_sem]) (by simp only [go_sem]) ?_
  rintro r bx rfl
  simp only [go_sem]
end Go.AM
namespace Go.AM
open Go Go.Proofs Go.RowKit
set_option maxRecDepth 100000
set_option maxHeartbeats 8000000
theorem all_bad {α : Type} [Inhabited α] {l : List α} {p : α -> Bool} {i : Nat} (h : i < l.length) (hb : p l[i]! = false) : l.all p = false := by
 rw [List.all_eq_false]
 refine ⟨l[i]!, ?_, by rw [hb]; simp⟩
 rw [getElem!_pos l i h]; exact List.getElem_mem h
theorem all_ok {α : Type} [Inhabited α] {l : List α} {p : α -> Bool} (h : ∀ i, i < l.length -> p l[i]! = true) : l.all p = true := by
 rw [List.all_eq_true]
 intro x hx
 obtain ⟨i, hi, rfl⟩ := List.getElem_of_mem hx
 have := h i hi
 rwa [getElem!_pos l i hi] at this
theorem con_rranksG (m : MD) (hl : m.ranks.length <= 1000000) : Con Tryz.prog 64 [vM m] [] fun r _ => r = vb (rankedB m) := by
 refine Con.intro Tryz.func64 rfl Tryz.ntmps64 Tryz.results64 (by kernel_rfl) (by simp) 0 (by simp) ?_
 unfold rankedB
 by_cases k3 : m.kind = 3
 case neg =>
  have b3 : (m.kind != 3) = true := bne_iff_ne.2 k3
  have hz : ((m.ranks.length : Int) == 0) = (m.ranks.length == 0) := zero_len _
  rw [if_neg k3]
  simp only [go_sem, vM, cM, vss, b3, hz, List.length_map]
 rw [if_pos k3]
 have b3 : (m.kind != 3) = false := by rw [k3]; rfl
 by_cases hq : m.ranks.length = m.letters.length
 case neg =>
  have hq' : ((m.ranks.length : Int) != (m.letters.length : Int)) = true := bne_iff_ne.2 (by omega)
  rw [decide_eq_false hq, Bool.false_and]
  simp only [go_sem, vM, cM, vss, b3, hq', List.length_map]
 have hq' : ((m.ranks.length : Int) != (m.letters.length : Int)) = false := by
  rw [hq]; simp
 rw [decide_eq_true hq, Bool.true_and]
 simp only [go_sem, vM, cM, vss, b3, hq', List.length_map]
 refine LoopK.intro (fun i : Nat => ⟨32, [(1, .pb 0 0), (2, vb false), (3, vi i)], [[vi m.kind, .sl 0 1 (m.states.map vStr), .sl 0 1 (m.places.map vStr), .sl 0 1 (m.letters.map vStr), vs 0 m.ranks, vi m.levels, vi m.age, .sl 0 14 (m.rules.map vRule), vi m.start.n, .sl 0 2 (m.start.kids.map vV)]]⟩)
  (fun i => m.ranks.length - i) (fun i => i <= m.ranks.length /\ ∀ j, j < i -> betweenB m.ranks[j]! 0 5 = true) 0 ⟨by omega, fun j hj => by omega⟩ ?_ ?_
 ·simp only [go_sem, vs]
 rintro i ⟨hi, hj⟩
 by_cases h : i < m.ranks.length
 ·have hg := getv h
  have hw : IntKind.i64.wrap (i + 1) = i + 1 := wrap_in (by omega) (by omega)
  simp only [go_sem, h, hg]
  refine CallU.free (con_rbetween m.ranks[i]! 0 5) (by simp only [go_sem]) (by simp only [go_sem]) ?_
  rintro r bx rfl
  cases hc : betweenB m.ranks[i]! 0 5
  ·have hb := all_bad (p := fun r => betweenB r 0 5) h hc
   rw [hb]
   simp only [go_sem]
  simp only [go_sem, hw]
  refine roundK.intro (i + 1) ⟨by omega, fun j hj2 => ?_⟩ (by omega) ?_
  ·by_cases e : j = i
   ·rw [e]; exact hc
   ·exact hj j (by omega)
  simp only [go_sem]
 ·have hb := all_ok (l := m.ranks) (p := fun r => betweenB r 0 5) fun j hj2 => hj j (by omega)
  rw [hb]
  simp only [go_sem, h]
theorem con_rwordG (s : ByteArray) (hs : s.size <= 9223372036854775806) : Con Tryz.prog 84 [vStr s] [] fun r _ => r = vb (wordB s) := by
 refine Con.intro Tryz.func84 rfl Tryz.ntmps84 Tryz.results84 (by kernel_rfl) (by simp) 0 (by simp) ?_
 unfold wordB
 rw [ByteArray.toList_eq]
 simp only [go_sem]
 refine LoopK.intro (fun i : Nat => ⟨33, [(0, vStr s), (3, vi i)], []⟩) (fun i => s.size - i) (fun i => i <= s.size /\ ∀ j, j < i -> partB s.data.toList[j]! = true) 0 ⟨by omega, fun j hj => by omega⟩ ?_ ?_
 ·simp only [go_sem]
 rintro i ⟨hi, hj⟩
 by_cases h : i < s.size
 ·have hg := ba_get h
  have hw : IntKind.i64.wrap (i + 1) = i + 1 := wrap_in (by omega) (by omega)
  have h5 : i < s.data.toList.length := by rw [ba_len]; exact h
  simp only [go_sem, h, hg]
  refine CallU.free (con_rletter s.data.toList[i]!) (by simp only [go_sem]) (by simp only [go_sem]) ?_
  rintro r bx rfl
  cases hc : partB s.data.toList[i]!
  ·have hb := all_bad (p := partB) h5 hc
   rw [hb, Bool.and_false]
   simp only [go_sem]
  simp only [go_sem, hw]
  refine roundK.intro (i + 1) ⟨by omega, fun j hj2 => ?_⟩ (by omega) ?_
  ·by_cases e : j = i
   ·rw [e]; exact hc
   ·exact hj j (by omega)
  simp only [go_sem]
 ·have hb := all_ok (l := s.data.toList) (p := partB) fun j hj2 => hj j (by rw [ba_len] at hj2; omega)
  rw [hb, Bool.and_true]
  by_cases h1 : 0 < s.size
  ·have e0 : s.get! 0 = s.data.toList[0]! := by
    have h5 : 0 < s.data.toList.length := by rw [ba_len]; exact h1
    rw [getElem!_pos s.data.toList 0 h5, Array.getElem_toList]
    show s.data[0]! = _
    rw [getElem!_pos s.data 0 h1]
   have hg := ba_get h1
   have g1 : (1 : Int) <= (s.size : Int) := by omega
   rw [e0, letterB_eq, decide_eq_true h1, Bool.true_and]
   by_cases h2 : s.size <= 12
   ·have g2 : (s.size : Int) <= 12 := by omega
    rw [decide_eq_true h2, Bool.true_and]
    by_cases h3 : (97 : Int) <= (s.data.toList[0]!.toNat : Int) <;> by_cases h4 : (s.data.toList[0]!.toNat : Int) <= 122 <;>
     simp only [go_sem, h, hg, g1, g2, h3, h4, decide_true, decide_false, Bool.and_true, Bool.and_false]
   ·have g2 : ¬ (s.size : Int) <= 12 := by omega
    rw [decide_eq_false h2, Bool.false_and]
    simp only [go_sem, h, g1, g2]
  ·have g1 : ¬ (1 : Int) <= (s.size : Int) := by omega
   rw [decide_eq_false h1, Bool.false_and, Bool.false_and]
   simp only [go_sem, h, g1]
theorem con_rkeywordG (s : ByteArray) : Con Tryz.prog 85 [vStr s] [] fun r _ => r = vb (keywordB s) := by
 cases hk : keywordB s
 ·exact con_rkeyword s hk
 have hq : ∃ i, i < kwL.length /\ (kwL[i]!.toList == s.toList) = true := by
  unfold keywordB at hk
  obtain ⟨x, hx, he⟩ := List.any_eq_true.1 hk
  obtain ⟨i, hi, rfl⟩ := List.getElem_of_mem hx
  refine ⟨i, hi, ?_⟩
  rw [getElem!_pos kwL i hi]
  rw [beq_iff_eq] at he ⊢
  exact he.symm
 obtain ⟨k, hk1, hk2⟩ := hq
 refine Con.intro Tryz.func85 rfl Tryz.ntmps85 Tryz.results85 (by kernel_rfl) (by simp) 0 (by simp) ?_
 simp only [go_sem]
 refine LoopK.intro (fun i : Nat => ⟨18, [(0, vStr s), (3, .sl 384 1 (kwL.map vStr)), (4, vi i)], []⟩) (fun i => 18 - i) (fun i => i <= k) 0 (by omega) ?_ ?_
 ·simp only [go_sem, kwL, List.map_cons, List.map_nil]
 rintro i hi
 have h18 : i < 18 := by rw [kwL_len] at hk1; omega
 have hl : i < kwL.length := by omega
 have hg := getStr hl
 have hw : IntKind.i64.wrap (i + 1) = i + 1 := wrap_in (by omega) (by omega)
 cases hn : kwL[i]!.toList == s.toList
 ·have : i ≠ k := by intro e; rw [e, hk2] at hn; cases hn
  simp only [go_sem, kwL_len, h18, hg, hn, hw]
  refine roundK.intro (i + 1) (by omega) (by omega) ?_
  simp only [go_sem]
 ·simp only [go_sem, kwL_len, h18, hg, hn]
end Go.AM
namespace Go.AM
open Go Go.Proofs Go.RowKit
set_option maxRecDepth 100000
set_option maxHeartbeats 8000000
theorem okN_dup {l : List ByteArray} {i k : Nat} (hi : i < l.length) (hk : k < i) (he : (l[k]!.toList == l[i]!.toList) = true) : okN l i = false := by
 rw [ba_eq, beq_iff_eq] at he
 have h3 : l[i]!.data.toList ∈ (l.take i).map fun s => s.data.toList := by
  refine List.mem_map.2 ⟨l[k]!, ?_, he⟩
  rw [getElem!_pos l k (by omega)]
  exact List.mem_of_getElem? (i := k) (by rw [List.getElem?_take, if_pos hk]; simp)
 unfold okN
 rw [List.contains_iff_mem.2 h3, Bool.not_true, Bool.and_false]
theorem okN_new {l : List ByteArray} {i : Nat} (hi : i < l.length) (hw : wordB l[i]! = true) (hk : keywordB l[i]! = false) (hn : ∀ k, k < i -> (l[k]!.toList == l[i]!.toList) = false) : okN l i = true := by
 unfold okN
 rw [hw, hk, Bool.not_false, Bool.true_and, Bool.true_and, Bool.not_eq_true', <- Bool.not_eq_true]
 intro h
 obtain ⟨x, hx, he⟩ := List.mem_map.1 (List.contains_iff_mem.1 h)
 obtain ⟨k, hk2, rfl⟩ := List.getElem_of_mem hx
 rw [List.length_take] at hk2
 have h2 := hn k (by omega)
 rw [ba_eq, beq_eq_false_iff_ne] at h2
 apply h2
 rw [<- he, List.getElem_take, getElem!_pos l k (by omega)]
theorem okN_word {l : List ByteArray} {i : Nat} (hw : wordB l[i]! = false) : okN l i = false := by unfold okN; rw [hw, Bool.false_and, Bool.false_and]
theorem okN_keyword {l : List ByteArray} {i : Nat} (hk : keywordB l[i]! = true) : okN l i = false := by unfold okN; rw [hk, Bool.not_true, Bool.and_false, Bool.false_and]
theorem con_rnamesG (m : MD) (h1 : 1 <= m.states.length) (h2 : (namesOf m).length <= 1000000) (hs : ∀ s ∈ namesOf m, s.size <= 9223372036854775806) : Con Tryz.prog 65 [vM m] [] fun r _ => r = vb (namesB (namesOf m)) := by
 refine Con.intro Tryz.func65 rfl Tryz.ntmps65 Tryz.results65 (by kernel_rfl) (by simp) 0 (by simp) ?_
 have h2' := h2
 unfold namesOf at h2'
 simp only [List.length_append, List.length_map] at h2'
 have r1 : roomFor m.states.length 16 := by simp only [roomFor]; omega
 have r2 : roomFor (m.states.length + m.places.length) 16 := by simp only [roomFor]; omega
 have r3 : roomFor (m.states.length + m.places.length + m.letters.length) 16 := by simp only [roomFor]; omega
 have e0 : namesTo m 0 = m.states ++ m.places ++ m.letters := by rw [namesTo_zero]
 unfold vM cM
 simp only [go_sem, vss]
 refine DrawK.meet ⟨65, [(1, .pb 0 0), (2, vb false), (3, .sl 640 1 ((namesTo m 0).map vStr))], [[vi m.kind, .sl 0 1 (m.states.map vStr), .sl 0 1 (m.places.map vStr), .sl 0 1 (m.letters.map vStr), vs 0 m.ranks, vi m.levels, vi m.age, .sl 0 14 (m.rules.map vRule), vi m.start.n, .sl 0 2 (m.start.kids.map vV)]]⟩ ?_ ?_
 ·refine DrawK.tree namesTree mixed (by kernel_rfl) ?_
  unfold namesTree
  rw [e0, List.map_append, List.map_append]
  repeat' (first | with_reducible apply andK_mk | simp only [go_sem, List.length_map, List.length_append, r1, r2, r3])
 ·simp only [go_sem]
  refine LoopK.intro (fun i : Nat => ⟨65, [(1, .pb 0 0), (2, vb false), (3, .sl 640 1 ((namesTo m i).map vStr)), (4, vi i)], [[vi m.kind, .sl 0 1 (m.states.map vStr), .sl 0 1 (m.places.map vStr), .sl 0 1 (m.letters.map vStr), vs 0 m.ranks, vi m.levels, vi m.age, .sl 0 14 (m.rules.map vRule), vi m.start.n, .sl 0 2 (m.start.kids.map vV)]]⟩)
   (fun i => m.rules.length - i) (fun i => i <= m.rules.length) 0 (by omega) ?_ ?_
  ·simp only [go_sem]
  rintro i hi
  have hn := namesTo_len (m := m) (i := i)
  by_cases hlt : i < m.rules.length
  ·have hg := getRule hlt
   have hw : IntKind.i64.wrap (i + 1) = i + 1 := wrap_in (by omega) (by omega)
   have e := namesTo_succ hlt
   have hr : roomFor ((namesTo m i).length + 1) 16 := by simp only [roomFor]; omega
   simp only [go_sem, hlt, hg, hw, hr]
   refine roundK.intro (i + 1) (by omega) (by omega) ?_
   simp only [go_sem, e, List.map_append, List.map_cons, List.map_nil]
  obtain rfl : i = m.rules.length := by omega
  rw [namesTo_all]
  simp only [go_sem, hlt]
  generalize namesOf m = l at *
  refine LoopK.intro (fun i : Nat => ⟨65, [(1, .pb 0 0), (2, vb false), (3, .sl 640 1 (l.map vStr)), (5, vi i)], [[vi m.kind, .sl 0 1 (m.states.map vStr), .sl 0 1 (m.places.map vStr), .sl 0 1 (m.letters.map vStr), vs 0 m.ranks, vi m.levels, vi m.age, .sl 0 14 (m.rules.map vRule), vi m.start.n, .sl 0 2 (m.start.kids.map vV)]]⟩)
   (fun i => l.length - i) (fun i => i <= l.length /\ ∀ j, j < i -> okN l j = true) 0 ⟨by omega, fun j hj => by omega⟩ ?_ ?_
  ·simp only [go_sem]
  rintro i ⟨hi, hok⟩
  by_cases hlt2 : i < l.length
  ·have hg := getStr hlt2
   have hw : IntKind.i64.wrap (i + 1) = i + 1 := wrap_in (by omega) (by omega)
   have hsz : l[i]!.size <= 9223372036854775806 := hs _ (by rw [getElem!_pos l i hlt2]; exact List.getElem_mem hlt2)
   simp only [go_sem, hlt2, hg]
   refine CallU.free (con_rwordG l[i]! hsz) (by simp only [go_sem]) (by simp only [go_sem]) ?_
   rintro r bx rfl
   cases hwd : wordB l[i]!
   ·have hb := names_bad hlt2 (okN_word hwd)
    rw [hb]
    simp only [go_sem]
   simp only [go_sem, hlt2, hg]
   refine CallU.free (con_rkeywordG l[i]!) (by simp only [go_sem]) (by simp only [go_sem]) ?_
   rintro r bx rfl
   cases hky : keywordB l[i]!
   case true =>
    have hb := names_bad hlt2 (okN_keyword hky)
    rw [hb]
    simp only [go_sem]
   simp only [go_sem]
   refine LoopK.intro (fun k : Nat => ⟨65, [(1, .pb 0 0), (2, vb false), (3, .sl 640 1 (l.map vStr)), (5, vi i), (6, vi k)], [[vi m.kind, .sl 0 1 (m.states.map vStr), .sl 0 1 (m.places.map vStr), .sl 0 1 (m.letters.map vStr), vs 0 m.ranks, vi m.levels, vi m.age, .sl 0 14 (m.rules.map vRule), vi m.start.n, .sl 0 2 (m.start.kids.map vV)]]⟩)
    (fun k => i - k) (fun k => k <= i /\ ∀ j, j < k -> (l[j]!.toList == l[i]!.toList) = false) 0 ⟨by omega, fun j hj => by omega⟩ ?_ ?_
   ·simp only [go_sem]
   rintro k ⟨hk, hks⟩
   by_cases hki : k < i
   ·have hkl : k < l.length := by omega
    have hgk := getStr hkl
    have hwk : IntKind.i64.wrap (k + 1) = k + 1 := wrap_in (by omega) (by omega)
    cases hne : l[k]!.toList == l[i]!.toList
    case true =>
     have hb := names_bad hlt2 (okN_dup hlt2 hki hne)
     rw [hb]
     simp only [go_sem, hki]
     refine DrawK.walk 9 mixed (by kernel_rfl) ?_
     simp only [go_sem, hlt2, hkl, hg, hgk, hne]
    simp only [go_sem, hki]
    refine DrawK.walk 9 mixed (by kernel_rfl) ?_
    simp only [go_sem, hlt2, hkl, hg, hgk, hne, hwk]
    refine roundK.intro (k + 1) ⟨by omega, fun j hj2 => ?_⟩ (by omega) ?_
    ·by_cases e : j = k
     ·rw [e]; exact hne
     ·exact hks j (by omega)
    simp only [go_sem]
   ·obtain rfl : k = i := by omega
    simp only [go_sem, hki, hw]
    refine roundK.intro (k + 1) ⟨by omega, fun j hj2 => ?_⟩ (by omega) ?_
    ·by_cases e : j = k
     ·rw [e]; exact okN_new hlt2 hwd hky hks
     ·exact hok j (by omega)
    simp only [go_sem]
  ·have hb := names_ok (l := l) fun j hj => hok j (by omega)
   rw [hb]
   simp only [go_sem, hlt2]
end Go.AM
namespace Go.AM
open Go Go.Proofs Go.RowKit
set_option maxRecDepth 100000
def listB (l : List Int) (n lo hi : Int) : Bool := (l.all fun x => betweenB x lo hi) && ((l.length : Int) == n)
theorem con_rlistG (l : List Int) (n lo hi : Int) (h6 : l.length <= 9223372036854775806) : Con Tryz.prog 86 [vs 0 l, vi n, vi lo, vi hi] [] fun r _ => r = vb (listB l n lo hi) := by
 refine Con.intro Tryz.func86 rfl Tryz.ntmps86 Tryz.results86 (by kernel_rfl) (by simp) 0 (by simp) ?_
 unfold listB
 simp only [go_sem]
 refine LoopK.intro (fun i : Nat => ⟨28, [(0, vs 0 l), (1, vi n), (2, vi lo), (3, vi hi), (9, vi i)], []⟩) (fun i => l.length - i) (fun i => i <= l.length /\ ∀ j, j < i -> betweenB l[j]! lo hi = true) 0 ⟨by omega, fun j hj => by omega⟩ ?_ ?_
 ·simp only [go_sem]
 rintro i ⟨hi2, hj⟩
 by_cases h : i < l.length
 ·have hg := getv h
  have hw : IntKind.i64.wrap (i + 1) = i + 1 := wrap_in (by omega) (by omega)
  simp only [go_sem, h, hg]
  refine CallU.free (con_rbetween l[i]! lo hi) (by simp only [go_sem]) (by simp only [go_sem]) ?_
  rintro r bx rfl
  cases hc : betweenB l[i]! lo hi
  ·have hb := all_bad (p := fun x => betweenB x lo hi) h hc
   rw [hb, Bool.false_and]
   simp only [go_sem]
  simp only [go_sem, hw]
  refine roundK.intro (i + 1) ⟨by omega, fun j hj2 => ?_⟩ (by omega) ?_
  ·by_cases e : j = i
   ·rw [e]; exact hc
   ·exact hj j (by omega)
  simp only [go_sem]
 ·have hb := all_ok (l := l) (p := fun x => betweenB x lo hi) fun j hj2 => hj j (by omega)
  rw [hb, Bool.true_and]
  simp only [go_sem, h]
theorem listB_self (l : List Int) (lo hi : Int) : listB l l.length lo hi = l.all fun x => betweenB x lo hi := by
 unfold listB
 rw [beq_self_eq_true, Bool.and_true]
theorem con_rzero (l : List Int) (h6 : l.length <= 9223372036854775806) : Con Tryz.prog 89 [vs 0 l] [] fun r _ => r = vb (l.all fun x => betweenB x 0 0) := by
 refine Con.intro Tryz.func89 rfl Tryz.ntmps89 Tryz.results89 (by kernel_rfl) (by simp) 0 (by simp) ?_
 have hc := con_rlistG l l.length 0 0 h6
 rw [listB_self] at hc
 simp only [go_sem]
 refine CallU.free hc (by simp only [go_sem]) (by simp only [go_sem]) ?_
 rintro r bx rfl
 simp only [go_sem]
theorem index_between (x : Int) (n : Nat) : betweenB x 0 ((n : Int) - 1) = indexB x n := by
 unfold betweenB indexB
 rw [Bool.eq_iff_iff]
 simp only [Bool.and_eq_true, decide_eq_true_eq]
 omega
end Go.AM
namespace Go.AM
open Go Go.Proofs Go.RowKit
theorem two_false {a b : Nat} (h : (a == 0 && b == 0) = false) : 0 < a \/ (¬ 0 < a /\ 0 < b) := by
 rw [Bool.and_eq_false_iff, beq_eq_false_iff_ne, beq_eq_false_iff_ne] at h
 omega
theorem two_true {a b : Nat} (h : (a == 0 && b == 0) = true) : ¬ 0 < a /\ ¬ 0 < b := by
 rw [Bool.and_eq_true, beq_iff_eq, beq_iff_eq] at h
 omega
def z3 (r : RD) : Bool := r.move.length == 0
theorem z3_false {r : RD} (h : z3 r = false) : 0 < r.move.length := by unfold z3 at h; rw [beq_eq_false_iff_ne] at h; omega
theorem z3_true {r : RD} (h : z3 r = true) : ¬ 0 < r.move.length := by unfold z3 at h; rw [beq_iff_eq] at h; omega
def z4 (r : RD) : Bool := r.channel == 0 && r.act == 0 && r.letter == 0
theorem z4_false {r : RD} (h : z4 r = false) : (r.channel != 0) = true \/ ((r.channel != 0) = false /\ (r.act != 0) = true) \/ ((r.channel != 0) = false /\ (r.act != 0) = false /\ (r.letter != 0) = true) := by
 unfold z4 at h
 unfold bne
 cases h1 : r.channel == 0 <;> cases h2 : r.act == 0 <;> cases h3 : r.letter == 0 <;> simp [h1, h2, h3] at h ⊢
theorem z4_true {r : RD} (h : z4 r = true) : (r.channel != 0) = false /\ (r.act != 0) = false /\ (r.letter != 0) = false := by
 unfold z4 at h
 rw [Bool.and_eq_true, Bool.and_eq_true] at h
 unfold bne
 rw [h.1.1, h.1.2, h.2]
 exact ⟨rfl, rfl, rfl⟩
def z5 (r : RD) : Bool := r.path.length == 0 && r.next.length == 0
theorem z5_false {r : RD} (h : z5 r = false) : 0 < r.path.length \/ (¬ 0 < r.path.length /\ 0 < r.next.length) := two_false h
theorem z5_true {r : RD} (h : z5 r = true) : ¬ 0 < r.path.length /\ ¬ 0 < r.next.length := two_true h
def z6 (r : RD) : Bool := r.takes.length == 0 && r.makes.length == 0
theorem z6_false {r : RD} (h : z6 r = false) : 0 < r.takes.length \/ (¬ 0 < r.takes.length /\ 0 < r.makes.length) := two_false h
theorem z6_true {r : RD} (h : z6 r = true) : ¬ 0 < r.takes.length /\ ¬ 0 < r.makes.length := two_true h
end Go.AM
namespace Go.AM
open Go Go.Proofs Go.RowKit
set_option maxRecDepth 100000
set_option maxHeartbeats 8000000
theorem con_rright6 (m : MD) (r : RD) (h : RightM m) (hr : LenR r) (hk : m.kind = 6) : Con Tryz.prog 66 [vM m, vRule r] [] fun x _ => x = vb (betweenB r.src (-1) ((m.states.length : Int) - 1) && (betweenB r.dst 0 ((m.states.length : Int) - 1) && (listB r.need m.places.length 0 16 && (listB r.give m.places.length 0 16 && (z3 r && (z4 r && (z5 r && (z6 r && (q7 m r))))))))) := by
 refine Con.intro Tryz.func66 rfl Tryz.ntmps66 Tryz.results66 (by kernel_rfl) (by simp) 0 (by simp) ?_
 have h1 := h.states; have h2 := h.places; have h3 := h.letters
 have ws : IntKind.i64.wrap ((m.states.length : Int) - 1) = ((m.states.length : Int) - 1) := wrap_in (by omega) (by omega)
 have wp : IntKind.i64.wrap ((m.places.length : Int) - 1) = ((m.places.length : Int) - 1) := wrap_in (by omega) (by omega)
 have wl : IntKind.i64.wrap ((m.letters.length : Int) - 1) = ((m.letters.length : Int) - 1) := wrap_in (by omega) (by omega)
 have hp := hr.path; have hn := hr.next
 have wn : IntKind.i64.wrap ((r.path.length : Int) + (r.next.length : Int)) = (r.path.length : Int) + (r.next.length : Int) := wrap_in (by omega) (by omega)
 simp only [go_sem, vM, cM, vss, hk, List.length_map, ws]
 have cc := con_rbetween r.src (-1) ((m.states.length : Int) - 1)
 refine CallU.free cc (by simp only [go_sem]) (by simp only [go_sem]) ?_
 rintro x bx rfl
 cases betweenB r.src (-1) ((m.states.length : Int) - 1)
 ·rw [Bool.false_and]; simp only [go_sem]
 rw [Bool.true_and]
 simp only [go_sem, List.length_map, ws]
 have cc := con_rbetween r.dst 0 ((m.states.length : Int) - 1)
 refine CallU.free cc (by simp only [go_sem]) (by simp only [go_sem]) ?_
 rintro x bx rfl
 cases betweenB r.dst 0 ((m.states.length : Int) - 1)
 ·rw [Bool.false_and]; simp only [go_sem]
 rw [Bool.true_and]
 simp only [go_sem, List.length_map]
 have cc := con_rlistG r.need m.places.length 0 16 hr.len.need
 refine CallU.free cc (by simp only [go_sem]) (by simp only [go_sem]) ?_
 rintro x bx rfl
 cases listB r.need m.places.length 0 16
 ·rw [Bool.false_and]; simp only [go_sem]
 rw [Bool.true_and]
 simp only [go_sem, List.length_map]
 have cc := con_rlistG r.give m.places.length 0 16 hr.len.give
 refine CallU.free cc (by simp only [go_sem]) (by simp only [go_sem]) ?_
 rintro x bx rfl
 cases listB r.give m.places.length 0 16
 ·rw [Bool.false_and]; simp only [go_sem]
 rw [Bool.true_and]
 simp only [go_sem, List.length_map]
 cases hzz3 : z3 r
 ·rw [Bool.false_and]
  have a1 := z3_false hzz3
  simp only [go_sem, a1]
 rw [Bool.true_and]
 have z31 := z3_true hzz3
 simp only [go_sem, z31]
 cases hzz4 : z4 r
 ·rw [Bool.false_and]
  rcases z4_false hzz4 with a1 | ⟨b1, a2⟩ | ⟨b1, b2, a3⟩
  ·simp only [go_sem, a1]
  ·simp only [go_sem, b1, a2]
  ·simp only [go_sem, b1, b2, a3]
 rw [Bool.true_and]
 obtain ⟨z41, z42, z43⟩ := z4_true hzz4
 simp only [go_sem, List.length_map, z41, z42, z43]
 cases hzz5 : z5 r
 ·rw [Bool.false_and]
  rcases z5_false hzz5 with a1 | ⟨b1, a2⟩
  ·simp only [go_sem, a1]
  ·simp only [go_sem, List.length_map, b1, a2]
 rw [Bool.true_and]
 obtain ⟨z51, z52⟩ := z5_true hzz5
 simp only [go_sem, List.length_map, z51, z52]
 cases hzz6 : z6 r
 ·rw [Bool.false_and]
  rcases z6_false hzz6 with a1 | ⟨b1, a2⟩
  ·simp only [go_sem, a1]
  ·simp only [go_sem, List.length_map, b1, a2]
 rw [Bool.true_and]
 obtain ⟨z61, z62⟩ := z6_true hzz6
 simp only [go_sem, List.length_map, z61, z62]
 unfold q7
 cases hs : (r.src == -1)
 ·have hs2 : ¬ r.src = -1 := beq_eq_false_iff_ne.1 hs
  rw [if_neg hs2]
  simp only [go_sem, List.length_map, ws]
  have cc := con_rbetween r.second (-1) ((m.states.length : Int) - 1)
  refine CallU.free cc (by simp only [go_sem]) (by simp only [go_sem]) ?_
  rintro x bx rfl
  simp only [go_sem]
 ·have hs2 : r.src = -1 := beq_iff_eq.1 hs
  rw [if_pos hs2]
  cases h2 : (r.second == -1)
  ·rw [Bool.false_and]; simp only [go_sem, h2]
  rw [Bool.true_and]
  simp only [go_sem, h2]
  have cc := con_rzero r.need hr.len.need
  refine CallU.free cc (by simp only [go_sem]) (by simp only [go_sem]) ?_
  rintro x bx rfl
  simp only [go_sem]
end Go.AM
namespace Go.AM
open Go Go.Proofs Go.RowKit
theorem nilB {α : Type} [BEq α] (l : List α) : (l == []) = (l.length == 0) := by cases l <;> rfl
theorem list_small (l : List Int) (n : Nat) : listB l n 0 16 = (smallB l && decide (l.length = n)) := by
 unfold listB smallB
 congr 1
 rw [Bool.eq_iff_iff, beq_iff_eq, decide_eq_true_eq]
 omega
theorem same_only6 (r : RD) : sameB r (onlyR 6 r) = (z3 r && z4 r && z5 r && z6 r) := by
 unfold sameB onlyR z3 z4 z5 z6
 rw [if_neg (by omega), if_neg (by omega), if_neg (by omega), if_neg (by omega)]
 simp only [beq_self_eq_true, Bool.true_and, Bool.and_true, nilB]
 ac_rfl
theorem branch_eq {ns : Nat} {r : RD} {m : MD} (hm : m.states.length = ns) : (betweenB r.src (-1) ((ns : Int) - 1) && q7 m r) = ((indexB r.src ns || r.src == -1) && ((r.second == -1 || indexB r.second ns) && (decide (0 <= r.src) || (r.second == -1 && r.need.all fun x => x == 0)))) := by
 have e0 : (fun x => betweenB x 0 0) = fun x : Int => x == 0 := funext fun x => between_zero x
 unfold q7
 rw [hm, e0]
 by_cases h : r.src = -1
 ·rw [if_pos h, h]
  have e1 : decide ((0 : Int) <= -1) = false := by decide
  have e2 : betweenB (-1) (-1) ((ns : Int) - 1) = true := between_true (by omega) (by omega)
  have e3 : ((-1 : Int) == -1) = true := by decide
  rw [e1, e2, e3, Bool.or_true, Bool.true_and, Bool.true_and, Bool.false_or]
  cases h2 : r.second == -1
  ·rw [Bool.false_and, Bool.and_false]
  ·rw [Bool.true_or, Bool.true_and, Bool.true_and]
 ·rw [if_neg h, beq_eq_false_iff_ne.2 h, Bool.or_false]
  unfold betweenB indexB
  rw [Bool.eq_iff_iff]
  simp only [Bool.and_eq_true, Bool.or_eq_true, decide_eq_true_eq, beq_iff_eq]
  constructor
  ·rintro ⟨h1, h2⟩
   exact ⟨by omega, by omega, .inl (by omega)⟩
  ·rintro ⟨h1, h2, -⟩
   omega
theorem Con.toB {f : FuncId} {args : List AV} {b b' : Bool} (h : Con Tryz.prog f args [] fun x _ => x = vb b) (e : b = b') : Con Tryz.prog f args [] fun x _ => x = vb b' := e ▸ h
end Go.AM
namespace Go.AM
open Go Go.Proofs Go.RowKit
theorem any_bad {α : Type} [Inhabited α] {l : List α} {p : α -> Bool} {i : Nat} (h : i < l.length) (hb : p l[i]! = true) : l.any p = true := by
 rw [List.any_eq_true]
 exact ⟨l[i]!, mem_bangI h, hb⟩
theorem any_ok {α : Type} [Inhabited α] {l : List α} {p : α -> Bool} (h : ∀ i, i < l.length -> p l[i]! = false) : l.any p = false := by
 rw [List.any_eq_false]
 intro x hx
 obtain ⟨i, hi, rfl⟩ := List.getElem_of_mem hx
 have := h i hi
 rw [getElem!_pos l i hi] at this
 rw [this]; simp
end Go.AM
namespace Go.AM
open Go Go.Proofs Go.RowKit
set_option maxRecDepth 100000
set_option maxHeartbeats 8000000
namespace Six
theorem any_bad {α : Type} [Inhabited α] {l : List α} {p : α -> Bool} {i : Nat} (h : i < l.length) (hb : p l[i]! = true) : l.any p = true := by
 rw [List.any_eq_true]
 exact ⟨l[i]!, mem_bangI h, hb⟩
theorem any_ok {α : Type} [Inhabited α] {l : List α} {p : α -> Bool} (h : ∀ i, i < l.length -> p l[i]! = false) : l.any p = false := by
 rw [List.any_eq_false]
 intro x hx
 obtain ⟨i, hi, rfl⟩ := List.getElem_of_mem hx
 have := h i hi
 rw [getElem!_pos l i hi] at this
 rw [this]; simp
theorem nilB {α : Type} [BEq α] (l : List α) : (l == []) = (l.length == 0) := by cases l <;> rfl
theorem list_small (l : List Int) (n : Nat) : listB l n 0 16 = (smallB l && decide (l.length = n)) := by
 unfold listB smallB
 congr 1
 rw [Bool.eq_iff_iff, beq_iff_eq, decide_eq_true_eq]
 omega
theorem same_only6 (r : RD) : sameB r (onlyR 6 r) = (z3 r && z4 r && z5 r && z6 r) := by
 unfold sameB onlyR z3 z4 z5 z6
 rw [if_neg (by omega), if_neg (by omega), if_neg (by omega), if_neg (by omega)]
 simp only [beq_self_eq_true, Bool.true_and, Bool.and_true, nilB]
 ac_rfl
theorem branch_eq {ns : Nat} {r : RD} {m : MD} (hm : m.states.length = ns) : (betweenB r.src (-1) ((ns : Int) - 1) && q7 m r) = ((indexB r.src ns || r.src == -1) && ((r.second == -1 || indexB r.second ns) && (decide (0 <= r.src) || (r.second == -1 && r.need.all fun x => x == 0)))) := by
 have e0 : (fun x => betweenB x 0 0) = fun x : Int => x == 0 := funext fun x => between_zero x
 unfold q7
 rw [hm, e0]
 by_cases h : r.src = -1
 ·rw [if_pos h, h]
  have e1 : decide ((0 : Int) <= -1) = false := by decide
  have e2 : betweenB (-1) (-1) ((ns : Int) - 1) = true := between_true (by omega) (by omega)
  have e3 : ((-1 : Int) == -1) = true := by decide
  rw [e1, e2, e3, Bool.or_true, Bool.true_and, Bool.true_and, Bool.false_or]
  cases h2 : r.second == -1
  ·rw [Bool.false_and, Bool.and_false]
  ·rw [Bool.true_or, Bool.true_and, Bool.true_and]
 ·rw [if_neg h, beq_eq_false_iff_ne.2 h, Bool.or_false]
  unfold betweenB indexB
  rw [Bool.eq_iff_iff]
  simp only [Bool.and_eq_true, Bool.or_eq_true, decide_eq_true_eq, beq_iff_eq]
  constructor
  ·rintro ⟨h1, h2⟩
   exact ⟨by omega, by omega, .inl (by omega)⟩
  ·rintro ⟨h1, h2, -⟩
   omega
theorem Con.toB {f : FuncId} {args : List AV} {b b' : Bool} (h : Con Tryz.prog f args [] fun x _ => x = vb b) (e : b = b') : Con Tryz.prog f args [] fun x _ => x = vb b' := e ▸ h
theorem con_rright6G (m : MD) (r : RD) (h : RightM m) (hr : LenR r) (hk : m.kind = 6) : Con Tryz.prog 66 [vM m, vRule r] [] fun x _ => x = vb (rightR m r) := by
 refine Six.Con.toB (con_rright6 m r h hr hk) ?_
 unfold rightR fitsR
 rw [if_neg (by omega), if_neg (by omega), if_neg (by omega), if_neg (by omega), hk, same_only6]
 unfold endsR branchB changesB
 have e6 : (m.kind == 6) = true := beq_iff_eq.2 hk
 have eb := branch_eq (r := r) (m := m) rfl
 rw [e6, Bool.true_and, index_between, list_small, list_small]
 generalize (indexB r.src m.states.length || r.src == -1) = A at eb ⊢
 generalize (r.second == -1 || indexB r.second m.states.length) = B at eb ⊢
 generalize (decide (0 <= r.src) || (r.second == -1 && r.need.all fun x => x == 0)) = C at eb ⊢
 generalize betweenB r.src (-1) ((m.states.length : Int) - 1) = D at eb ⊢
 generalize q7 m r = E at eb ⊢
 generalize smallB r.need = F1
 generalize smallB r.give = F2
 generalize decide (r.need.length = m.places.length) = F3
 generalize decide (r.give.length = m.places.length) = F4
 have e : (D && (indexB r.dst m.states.length && ((F1 && F3) && ((F2 && F4) && (z3 r && (z4 r && (z5 r && (z6 r && E)))))))) = ((D && E) && (indexB r.dst m.states.length && ((F1 && F3) && ((F2 && F4) && (z3 r && (z4 r && (z5 r && z6 r))))))) := by ac_rfl
 rw [e, eb]
 ac_rfl
theorem con_rCheck6 (m : MD) (h : LenM m) (hk6 : m.kind = 6) : Con Tryz.prog 27 [vM m] [] fun r _ => r = vi (checkF m) := by
 have e1 : vM m = .ag [vi m.kind, vss m.states, vss m.places, vss m.letters, vs 0 m.ranks, vi m.levels, vi m.age, .sl 0 14 (m.rules.map vRule), vi m.start.n, .sl 0 2 (m.start.kids.map vV)] := rfl
 have hl := names_lens h
 rw [e1]
 refine Con.intro Tryz.func27 rfl Tryz.ntmps27 Tryz.results27 (by kernel_rfl) (by simp) 0 (by simp) ?_
 unfold checkF
 simp only [go_sem, vss]
 refine CallU.free (con_rbetween m.kind 1 6) (by simp only [go_sem]) (by simp only [go_sem]) ?_
 rintro r bx rfl
 cases h1 : betweenB m.kind 1 6
 ·simp only [go_sem, if_true]
 simp only [go_sem, if_false]
 refine CallU.free (con_rnumbersG m h1) (by simp only [go_sem]) (by simp only [go_sem, vss]) ?_
 rintro r bx rfl
 cases h2 : sizedB m
 ·simp only [go_sem, if_true]
 simp only [go_sem, if_false]
 refine CallU.free (con_rranksG m h.ranks) (by simp only [go_sem]) (by simp only [go_sem, vss]) ?_
 rintro r bx rfl
 cases h3 : rankedB m
 ·simp only [go_sem, if_true]
 have hz := sized_lim h2
 have hsz := sized_size h h2 h3
 have hRM : RightM m := ⟨hl.1, hl.2.1, hl.2.2.1, fun hk => by have := hz.2.2.1 hk; omega⟩
 simp only [go_sem, if_false]
 refine CallU.free (con_rnamesG m hz.1 h.names h.sizes) (by simp only [go_sem]) (by simp only [go_sem, vss]) ?_
 rintro r bx rfl
 cases h4 : namesB (namesOf m)
 ·simp only [go_sem, if_true]
 simp only [go_sem, if_false]
 refine LoopK.intro (fun i : Nat => ⟨52, [(1, .pb 0 0), (3, vi i)], [[vi m.kind, vss m.states, vss m.places, vss m.letters, vs 0 m.ranks, vi m.levels, vi m.age, .sl 0 14 (m.rules.map vRule), vi m.start.n, .sl 0 2 (m.start.kids.map vV)]]⟩)
  (fun i => m.rules.length - i) (fun i => i <= m.rules.length /\ ∀ j, j < i -> (!rightR m m.rules[j]!) = false) 0 ⟨by omega, fun j hj => by omega⟩ ?_ ?_
 ·simp only [go_sem, vss]
 rintro i ⟨hi, hj⟩
 by_cases hlt : i < m.rules.length
 ·have hg := getRule hlt
  have hw : IntKind.i64.wrap (i + 1) = i + 1 := wrap_in (by omega) (by omega)
  simp only [go_sem, hlt, vss]
  refine DrawK.walk 8 mixed (by kernel_rfl) ?_
  simp only [go_sem, hlt, hg]
  refine CallY.mk (con_rright6G m m.rules[i]! hRM (h.rules _ (mem_bangI hlt)) hk6) (by simp only [go_sem, vss]) (by simp only [go_sem]) (.inl (by simp only [go_sem])) ?_
  cases hq : rightR m m.rules[i]!
  ·rw [any_bad (p := fun r => !rightR m r) hlt (by rw [hq]; rfl)]
   simp only [go_sem, if_true]
  simp only [go_sem, hw]
  refine roundK.intro (i + 1) ⟨by omega, fun j hj2 => ?_⟩ (by omega) ?_
  ·by_cases e : j = i
   ·rw [e, hq]; rfl
   ·exact hj j (by omega)
  simp only [go_sem]
 ·have hok := any_ok (l := m.rules) (p := fun r => !rightR m r) fun j hj2 => hj j (by omega)
  rw [hok]
  unfold beginsF
  by_cases k6 : m.kind = 6
  ·have b6 : (m.kind == 6) = true := beq_iff_eq.2 k6
   rw [if_pos k6]
   cases hn : m.start.n == 0
   ·have hn' : (m.start.n != 0) = true := by unfold bne; rw [hn]; rfl
    simp only [go_sem, hlt, b6, hn', Bool.false_and, if_true, Bool.false_eq_true, if_false]
   have hn' : (m.start.n != 0) = false := by unfold bne; rw [hn]; rfl
   by_cases hk0 : 0 < m.start.kids.length
   ·have hb : (m.start.kids.length == 0) = false := beq_eq_false_iff_ne.2 (by omega)
    simp only [go_sem, hlt, b6, hn', hk0, hb, List.length_map, Bool.and_false, if_true, Bool.false_eq_true, if_false]
   ·have hb : (m.start.kids.length == 0) = true := beq_iff_eq.2 (by omega)
    simp only [go_sem, hlt, b6, hn', hk0, hb, List.length_map, Bool.and_self, Bool.true_eq_false, Bool.false_eq_true, if_false]
  exact absurd hk6 k6
end Six
end Go.AM
namespace Go.Proofs.YtiklkcjkmhkgjaaGreat
open Go.ChangeShapes Go.WideShapes Go.ChangeAt Go.RowKit Go.AM
theorem branchingFindsC0 : (Rows.branchingFindsRow.wf (OpenSpec.ofChange Rows.branchingFindsSpec)) = true := by kernel_rfl
theorem branchingFindsC3 : (Tryz.f4.params.all (Tryz.prog.readableRec ·)) = true := by kernel_rfl
theorem branchingFindsC4 : (namedTie Tryz.prog Rows.branchingFindsRow.named Rows.branchingFindsSpec.vars) = true := by kernel_rfl
theorem branchingFindsC5 : ((Rows.branchingFindsRow.stops == [])) = true := by kernel_rfl
theorem branchingFindsC6 : ((Tryz.prog.stops == [])) = true := by kernel_rfl
theorem branchingFindsC7 : ((Rows.branchingFindsRow.knobs == [])) = true := by kernel_rfl
theorem branchingFindsC8 : ((Tryz.prog.stopKnobs == [])) = true := by kernel_rfl
theorem branchingFindsC9 : ((Rows.branchingFindsRow.inPlace == Tryz.prog.inPlace 4)) = true := by kernel_rfl
theorem branchingFindsC10 : ((Rows.branchingFindsRow.unfollowed == Tryz.prog.unfollowed 4)) = true := by kernel_rfl
theorem branchingFindsC11 : ((Rows.branchingFindsRow.recurses == Tryz.prog.recurses 4)) = true := by kernel_rfl
theorem branchingFindsC12 : ((Rows.branchingFindsRow.named == Tryz.prog.varsNamed 4)) = true := by kernel_rfl
theorem branchingFindsC13 : ((Rows.branchingFindsRow.maps == (Tryz.f4.params.toList ++ Rows.branchingFindsSpec.plain.varTypes Tryz.prog).any (Tryz.prog.mapsRec ·))) = true := by kernel_rfl
theorem branchingFindsC14 : ((Rows.branchingFindsRow.ifaces == (Tryz.f4.params.toList ++ Rows.branchingFindsSpec.plain.varTypes Tryz.prog).any (Tryz.prog.ifacesRec ·))) = true := by kernel_rfl
theorem branchingFindsC15 : ((Rows.branchingFindsRow.mapsOut == Tryz.prog.mapsAmong Tryz.f4.resultTypes.toList)) = true := by kernel_rfl
theorem branchingFindsC16 : ((Rows.branchingFindsRow.loops == (Tryz.f4.params.toList ++ Rows.branchingFindsSpec.plain.varTypes Tryz.prog).any (Tryz.prog.loopsFrom ·))) = true := by kernel_rfl
theorem branchingFindsC17 : ((Rows.branchingFindsRow.wideKeys == (Tryz.f4.params.toList ++ Rows.branchingFindsSpec.plain.varTypes Tryz.prog ++ Tryz.f4.resultTypes.toList).any (Tryz.prog.wideKeysFrom ·))) = true := by kernel_rfl
theorem branchingFindsC18 : (Rows.branchingFindsSpec.vars.all (Tryz.prog.varReadable ·)) = true := by kernel_rfl
theorem branchingFindsC19 : (Tryz.f4.resultTypes.all (fun t => Tryz.prog.readableRec t && decide (t < Tryz.prog.types.size))) = true := by kernel_rfl
theorem branchingFindsC20 : ((Rows.branchingFindsRow.ifacesOut == Tryz.f4.resultTypes.toList.any (Tryz.prog.ifacesRec ·))) = true := by kernel_rfl
theorem branchingFindsC21 : ((Rows.branchingFindsRow.loopsOut == Tryz.f4.resultTypes.toList.any (Tryz.prog.loopsFrom ·))) = true := by kernel_rfl
theorem branchingFindsC22 : ((Rows.branchingFindsRow.plainKeys == Tryz.prog.plainKeys)) = true := by kernel_rfl
theorem branchingFindsC23 : (Rows.branchingFindsRow.shortTexts.isNone) = true := by kernel_rfl
theorem branchingFindsC27 : ((Tryz.prog.make == some Rows.branchingFindsRow.make)) = true := by kernel_rfl
theorem branchingFindsC28 : ((Rows.branchingFindsRow.kinds == (if Rows.branchingFindsRow.domain.isEmpty then [] else Tryz.f4.params.toList.map fun t => match Tryz.prog.underlying t with | some (.int k) => some k | _ => none))) = true := by kernel_rfl
theorem branchingFindsC29 : ((Rows.branchingFindsRow.pinned == Rows.branchingFindsRow.pinnedBy)) = true := by kernel_rfl
theorem branchingFindsC30 : ((Rows.branchingFindsRow.veiled == (Tryz.f4.params.toList ++ Rows.branchingFindsSpec.plain.varTypes Tryz.prog ++ Tryz.f4.resultTypes.toList).any (Tryz.prog.veiledRec ·))) = true := by kernel_rfl
theorem branchingFindsC31 : (Rows.branchingFindsRow.veiledFits Tryz.prog Tryz.f4.params.toList (Tryz.f4.params.toList ++ Rows.branchingFindsSpec.plain.varTypes Tryz.prog ++ Tryz.f4.resultTypes.toList)) = true := by kernel_rfl
end Go.Proofs.YtiklkcjkmhkgjaaGreat
namespace Go.Proofs.YtiklkcjkmhkgjaaGreat
open Go.ChangeShapes Go.WideShapes Go.ChangeAt Go.RowKit Go.AM
set_option maxRecDepth 100000
theorem branchingFindsClosed : joinedFacts Tryz.prog 4 Tryz.f4 Rows.branchingFindsSpec Rows.branchingFindsRow = true := by
 unfold joinedFacts
 exact and_mk (and_mk (and_mk (and_mk (and_mk (and_mk (and_mk (and_mk (and_mk (and_mk (and_mk (and_mk (and_mk (and_mk (and_mk (and_mk (and_mk (and_mk (and_mk (and_mk (and_mk (and_mk (and_mk (and_mk (and_mk (and_mk (and_mk (and_mk (and_mk (and_mk (and_mk branchingFindsC0 cLaid) cRowed) branchingFindsC3) branchingFindsC4) branchingFindsC5) branchingFindsC6) branchingFindsC7) branchingFindsC8) branchingFindsC9) branchingFindsC10) branchingFindsC11) branchingFindsC12) branchingFindsC13) branchingFindsC14) branchingFindsC15) branchingFindsC16) branchingFindsC17) branchingFindsC18) branchingFindsC19) branchingFindsC20) branchingFindsC21) branchingFindsC22) branchingFindsC23) cHeard) cEnter) cLifts) branchingFindsC27) branchingFindsC28) branchingFindsC29) branchingFindsC30) branchingFindsC31
theorem branchingFindsNamed : Tryz.prog.funcNamed Rows.branchingFindsRow.func = some 4 := by kernel_rfl
end Go.Proofs.YtiklkcjkmhkgjaaGreat
