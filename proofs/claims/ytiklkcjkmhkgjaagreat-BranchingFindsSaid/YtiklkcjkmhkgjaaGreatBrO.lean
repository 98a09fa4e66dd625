/-
 Walks: BranchingChains (chapter 21).
-/
import Derived.Test.YtiklkcjkmhkgjaaGreatX1
import Derived.Test.YtiklkcjkmhkgjaaGreatBrN
namespace Go.AM
open Go Go.Proofs Go.RowKit
set_option maxRecDepth 100000
set_option maxHeartbeats 8000000
theorem con_rsame21 (a b : CV) (ha : a.Ok) (hb : b.Ok) : Con Tryz.prog 19 [vV a, vV b] [] fun r _ => r = vb (cmpV a b == 0) := by
 have hc := con_rcompare _ a b (Nat.le_refl _) ha hb
 rw [vV_eq, vV_eq] at hc ⊢
 refine Con.intro Tryz.func19 rfl Tryz.ntmps19 Tryz.results19 (by kernel_rfl) (by simp) 0 (by simp) ?_
 simp only [go_sem]
 refine CallU.free hc (by simp only [go_sem]) (by simp only [go_sem]) ?_
 rintro r bx rfl
 simp only [go_sem]
def oneL (l : List RD) (i : Nat) : List RD := (l.take i).map oneR ++ l.drop i
theorem oneL_len (l : List RD) (i : Nat) : (oneL l i).length = l.length := by unfold oneL; rw [List.length_append, List.length_map, List.length_take, List.length_drop]; omega
theorem oneL_zero (l : List RD) : oneL l 0 = l := rfl
theorem oneL_full (l : List RD) : oneL l l.length = l.map oneR := by unfold oneL; simp
theorem modOne {l : List RD} {i : Nat} (h : i < l.length) : ((oneL l i).map vRule).modify i (updElem 13 [.sc (.int .i64 (-1))]) = (oneL l (i + 1)).map vRule := by
 have h2 : ((oneL l i).map vRule)[i]? = some (vRule l[i]!) := by
  have e : i - ((l.take i).map oneR).length = 0 := by rw [List.length_map, List.length_take]; omega
  rw [List.getElem?_map]
  unfold oneL
  rw [List.getElem?_append_right (by rw [List.length_map, List.length_take]; omega), e, List.getElem?_drop, Nat.add_zero, List.getElem?_eq_getElem h, getElem!_pos l i h]
  rfl
 have h3 : (oneL l i).set i (oneR l[i]!) = oneL l (i + 1) := by
  unfold oneL
  rw [List.set_append_right _ _ (by rw [List.length_map, List.length_take]; omega)]
  have e1 : l.drop i = l[i]! :: l.drop (i + 1) := by rw [<- List.getElem_cons_drop h, <- getElem!_pos l i h]
  have e2 : l.take (i + 1) = l.take i ++ [l[i]!] := by rw [List.take_succ_eq_append_getElem h, getElem!_pos l i h]
  have e3 : i - ((l.take i).map oneR).length = 0 := by rw [List.length_map, List.length_take]; omega
  rw [e1, e2, e3, List.set_cons_zero, List.map_append, List.append_assoc]
  rfl
 rw [mod_set h2, <- h3, List.map_set]; rfl
def chmA (few : List CV) (x : CV) (j : Nat) (b : Bool) : Prop := ∀ k, k < j -> few[k]! = x -> b = true
def chmB (np : Nat) (rs : List RD) (few : List CV) (x : CV) (i : Nat) (b : Bool) : Prop := ∀ q, q < i -> ∀ k, k < few.length -> ChaP np rs[q]! few[k]! x -> b = true
def chmC (np : Nat) (r : RD) (few : List CV) (x : CV) (j : Nat) (b : Bool) : Prop := ∀ k, k < j -> ChaP np r few[k]! x -> b = true
def goodP (r : RD) (y x : CV) (p : Nat) : Prop := r.need[p]! <= (y.kids[p + 1]!).n /\ (y.kids[p + 1]!).n - r.need[p]! + r.give[p]! = (x.kids[p + 1]!).n
def chmD (r : RD) (y x : CV) (p : Nat) (b : Bool) : Prop := (∀ q, q < p -> goodP r y x q) -> b = true
theorem kidAt {x : CV} {np p : Nat} (h : KOk np x) (hp : p < np + 1) : Option.map vV x.kids[p]? = some (.ag [.sc (.int .i64 (x.kids[p]!).n), .sl 0 2 ((x.kids[p]!).kids.map vV)]) := by
 have hl : p < x.kids.length := by rw [h.len]; exact hp
 rw [<- List.getElem?_map]
 exact getvV hl
theorem con_chainsLaw (l : List Int) : Con Tryz.prog 7 [vs 0 l] [] fun r _ => r = vb true := by
 refine Con.intro Tryz.func7 rfl Tryz.ntmps7 Tryz.results7 (by kernel_rfl) (by simp) 0 (by simp) ?_
 simp only [go_sem]
 refine CallU.free con_awake (by simp only [go_sem]) (by simp only [go_sem]) ?_
 rintro z bx rfl
 simp only [go_sem]
 refine CallU.free (con_few21 l) (by simp only [go_sem]) (by simp only [go_sem]) ?_
 rintro z bx rfl
 by_cases hf : (l.length : Int) <= 400
 case neg =>
  simp only [hf, decide_false]
  simp only [go_sem]
  refine CallU.free con_awake (by simp only [go_sem]) (by simp only [go_sem]) ?_
  rintro z bx rfl
  simp only [go_sem]
 have hd0 := deck21 hf
 simp only [hf, decide_true]
 simp only [go_sem]
 refine CallU.news (bx0 := []) (con_new21 l) (by simp only [go_sem]) (by simp only [go_sem]) (by simp only [go_sem]) (by simp only [go_sem]) (by simp only [go_sem]) ?_
 rintro r b ⟨rfl, rfl⟩
 generalize seed21 = s0 at hd0
 simp only [go_sem]
 refine CallU.boxes (i := 0) (is := []) (bx0 := [deckA l s0]) (con_dModelZ l s0 hd0) (by simp only [go_sem]) (by simp only [go_sem]) (by simp only [go_sem]) (by simp only [go_sem]) (by simp only [go_sem]) ?_
 rintro r b ⟨ns, np, nl, ra, lv, ag, rules, st, s1, hG, hd1, rfl, rfl⟩
 have hk0 := dealt_bra hG
 have hl0 := hG.len
 have hml : (dealtG 6 ns np nl ra lv ag rules st).rules.length <= 4 := hG.few
 clear hG hd0
 generalize dealtG 6 ns np nl ra lv ag rules st = m at hml hk0 hl0
 have hroom : m.rules.length <= 1000 := by omega
 simp only [go_sem, vM, cM, vss]
 refine ⟨by simp only [roomFor]; omega, ?_⟩
 refine LoopK.intro (fun i : Nat => ⟨172, [(3, .pb 0 0), (4, .pb 1 0), (40, vi m.rules.length), (41, vi i)], [deckA l s1, [vi m.kind, .sl 0 1 (m.states.map vStr), .sl 0 1 (m.places.map vStr), .sl 0 1 (m.letters.map vStr), vs 0 m.ranks, vi m.levels, vi m.age, .sl 2368 14 ((oneL m.rules i).map vRule), vi m.start.n, .sl 0 2 (m.start.kids.map vV)]]⟩)
  (fun i => m.rules.length - i) (fun i => i <= m.rules.length) 0 (by omega) ?_ ?_
 ·simp only [go_sem, oneL_zero]
  all_goals exact leB_self _
 rintro i hi
 by_cases h : i < m.rules.length
 ·have hg := getRule (l := oneL m.rules i) (i := i) (by rw [oneL_len]; exact h)
  have hw : IntKind.i64.wrap (i + 1) = i + 1 := wrap_in (by omega) (by omega)
  have hm := modOne h
  simp only [go_sem, h, hm, hw, oneL_len, List.length_map]
  refine roundK.intro (i + 1) (by omega) (by omega) ?_
  simp only [go_sem]
  all_goals exact leB_self _
 obtain rfl : i = m.rules.length := by omega
 have hc2 := con_bAll (oneM m) 2 bra_of (len_one hl0)
 have hc3 := con_bAll (oneM m) 3 bra_of (len_one hl0)
 obtain ⟨hF2, hF3⟩ := cha_fam (cha_rules hk0) (show (oneM m).rules.length <= 4 by show (m.rules.map oneR).length <= 4; rw [List.length_map]; exact hml)
 have hfrom := fun x (hx : x ∈ (famM (oneM m) 3).1.known) => cha_from (cha_rules hk0) (show (oneM m).rules.length <= 4 by show (m.rules.map oneR).length <= 4; rw [List.length_map]; exact hml) hx
 have hnp : (oneM m).places.length <= 1000 := (bra_of (kind_one hk0)).places.2
 have hkk2 := cha_known (by omega) hnp hF2
 have hkk3 := cha_known (by omega) hnp hF3
 have hx2 : allX (oneM m) 2 = .ok (famM (oneM m) 2).1.known := by
  unfold allX
  rw [if_neg (fun h => h (kind_one hk0)), if_neg (by omega), if_neg (by rw [show Int.toNat 2 = 2 from rfl, hF2.fine]; simp)]; rfl
 have hx3 : allX (oneM m) 3 = .ok (famM (oneM m) 3).1.known := by
  unfold allX
  rw [if_neg (fun h => h (kind_one hk0)), if_neg (by omega), if_neg (by rw [show Int.toNat 3 = 3 from rfl, hF3.fine]; simp)]; rfl
 have hlf2 := hF2.few
 have hlf3 := hF3.few
 have hbr := fun r hr => (cha_rules hk0 r hr)
 rw [hx2] at hc2
 rw [hx3] at hc3
 generalize (famM (oneM m) 2).1.known = few at hc2 hfrom hkk2 hlf2
 generalize (famM (oneM m) 3).1.known = more at hc3 hfrom hkk3 hlf3
 generalize hm2 : oneM m = m2 at *
 have e7 : m2.rules = m.rules.map oneR := by rw [<- hm2]; rfl
 have e0 : m2.kind = m.kind /\ m2.states = m.states /\ m2.places = m.places /\ m2.letters = m.letters /\ m2.ranks = m.ranks /\ m2.levels = m.levels /\ m2.age = m.age /\ m2.start = m.start := by rw [<- hm2]; exact ⟨rfl, rfl, rfl, rfl, rfl, rfl, rfl, rfl⟩
 rw [oneL_full, <- e7, <- e0.1, <- e0.2.1, <- e0.2.2.1, <- e0.2.2.2.1, <- e0.2.2.2.2.1, <- e0.2.2.2.2.2.1, <- e0.2.2.2.2.2.2.1, <- e0.2.2.2.2.2.2.2]
 have hrl : m2.rules.length <= 4 := by rw [e7, List.length_map]; exact hml
 rw [show m.rules.length = m2.rules.length by rw [e7, List.length_map]]
 clear e7 e0 hm2 hx2 hx3 hroom hml hk0 hl0 h hi
 simp only [allA] at hc2 hc3
 simp only [vM, cM, vss] at hc2 hc3
 have hirr : ¬ m2.rules.length < m2.rules.length := Nat.lt_irrefl _
 simp only [go_sem, hirr]
 refine CallU.freeze hc2 (by simp only [go_sem]) (by simp only [go_sem]) ?_
 rintro z bx rfl
 simp only [go_sem]
 refine CallU.free hc3 (by simp only [go_sem]) (by simp only [go_sem]) ?_
 rintro z bx rfl
 simp only [go_sem, List.length_map]
 clear hc2 hc3 hirr
 refine LoopK.intro (fun p : Nat × List Nat => ⟨172, [(3, .pb 0 0), (4, .pb 1 0), (6, .sl 0 2 (few.map vV)), (66, .sl 0 2 (more.map vV)), (67, vi more.length), (68, vi p.1)], deckA l s1 :: [vi m2.kind, .sl 0 1 (m2.states.map vStr), .sl 0 1 (m2.places.map vStr), .sl 0 1 (m2.letters.map vStr), vs 0 m2.ranks, vi m2.levels, vi m2.age, .sl 0 14 (m2.rules.map vRule), vi m2.start.n, .sl 0 2 (m2.start.kids.map vV)] :: Jk p.2⟩)
  (fun p => more.length - p.1) (fun p => p.1 <= more.length) (0, []) (by show 0 <= _; omega) ?_ ?_
 ·simp only [go_sem, Jk, List.map_nil]
  all_goals exact leB_self _
 rintro ⟨i, cs⟩ hi
 simp only at hi
 by_cases h : i < more.length
 case neg =>
  simp only [go_sem, h]
 have hgx := getvV h
 have hwi : IntKind.i64.wrap (i + 1) = i + 1 := wrap_in (by omega) (by omega)
 have kx := hkk3 _ (mem_bangI h)
 have fx := hfrom _ (mem_bangI h)
 generalize more[i]! = x at hgx kx fx
 have hB := Jk_len cs
 have n0 := fun L : List (List AV) => app_at0 (L := L) hB
 have n1 := fun (L : List (List AV)) (i : Nat) => app_at (L := L) (i := i) hB
 have s0 := fun (L : List (List AV)) z => app_set0 (L := L) (z := z) hB
 have s1' := fun (L : List (List AV)) (i : Nat) z => app_setN (L := L) (i := i) (z := z) hB
 simp only [go_sem, h, hgx, hB, n0, s0, List.cons_append, List.length_cons, List.length_nil, List.length_map]
 refine LoopK.intro (fun p : Nat × Bool × List Nat => ⟨172, [(3, .pb 0 0), (4, .pb 1 0), (6, .sl 0 2 (few.map vV)), (66, .sl 0 2 (more.map vV)), (67, vi more.length), (68, vi i), (11, .pb (cs.length + 1 + 1) 0), (12, vb p.2.1), (72, .sl 0 2 (few.map vV)), (73, vi few.length), (74, vi p.1)], deckA l s1 :: [vi m2.kind, .sl 0 1 (m2.states.map vStr), .sl 0 1 (m2.places.map vStr), .sl 0 1 (m2.letters.map vStr), vs 0 m2.ranks, vi m2.levels, vi m2.age, .sl 0 14 (m2.rules.map vRule), vi m2.start.n, .sl 0 2 (m2.start.kids.map vV)] :: (Jk cs ++ ([vi x.n, .sl 0 2 (x.kids.map vV)] :: Jk p.2.2))⟩)
  (fun p => few.length - p.1) (fun p => p.1 <= few.length /\ chmA few x p.1 p.2.1) (0, false, []) ⟨by show 0 <= _; omega, fun k hk => by cases hk⟩ ?_ ?_
 ·simp only [go_sem, Jk, List.map_nil]
  all_goals exact leB_self _
 rintro ⟨j, b, ds⟩ ⟨hj, hmA⟩
 simp only at hj hmA
 have hD := Jk_len ds
 have d0 := fun L : List (List AV) => app_at0 (L := L) hD
 have d1 := fun (L : List (List AV)) (i : Nat) => app_at (L := L) (i := i) hD
 have e0 := fun (L : List (List AV)) z => app_set0 (L := L) (z := z) hD
 have e2 := fun (L : List (List AV)) (i : Nat) z => app_setN (L := L) (i := i) (z := z) hD
 by_cases h2 : j < few.length
 ·have hgy := getvV h2
  have hwj : IntKind.i64.wrap (j + 1) = j + 1 := wrap_in (by omega) (by omega)
  have ky := hkk2 _ (mem_bangI h2)
  obtain ⟨y, hy⟩ : ∃ y, y = few[j]! := ⟨_, rfl⟩
  rw [<- hy] at hgy ky
  have hsm := con_rsame21 x y kx.ok ky.ok
  rw [vV_eq x, vV_eq y] at hsm
  simp only [go_sem, h2, hgy, hB, n1, s1', hD, d0, e0, List.append_assoc, List.cons_append, List.length_append, List.length_cons, List.length_nil, List.length_map]
  cases b with
  | true =>
   simp only [go_sem, hwj]
   refine roundK.intro (j + 1, true, ds ++ [2]) ⟨by show j + 1 <= _; omega, fun k hk _ => rfl⟩ (by show few.length - (j + 1) < few.length - j; omega) ?_
   simp only [go_sem]
   exact leB_app (leB_self _) ⟨leC_self _, leB_JkA ⟨⟨leV_any _, leV_any _, trivial⟩, trivial⟩⟩
  | false =>
   simp only [go_sem, n0, n1, d0, List.length_cons, List.length_nil]
   refine CallU.free hsm (by simp only [go_sem]) (by simp only [go_sem]) ?_
   rintro z bx rfl
   simp only [go_sem, hwj]
   refine roundK.intro (j + 1, cmpV x y == 0, ds ++ [2]) ⟨by show j + 1 <= _; omega, fun k hk he => ?_⟩ (by show few.length - (j + 1) < few.length - j; omega) ?_
   ·by_cases hkj : k = j
    ·subst hkj
     rw [<- hy] at he
     rw [he, (ordV.zero x x).2 rfl]; rfl
    ·exact absurd (hmA k (by show k < j; have : k < j + 1 := hk; omega) he) (by simp)
   ·simp only [go_sem]
    exact leB_app (leB_self _) ⟨leC_self _, leB_JkA ⟨⟨leV_any _, leV_any _, trivial⟩, trivial⟩⟩
 obtain rfl : j = few.length := by omega
 simp only [go_sem, h2, List.length_map]
 refine LoopK.intro (fun p : Nat × Bool × List Nat => ⟨172, [(3, .pb 0 0), (4, .pb 1 0), (6, .sl 0 2 (few.map vV)), (66, .sl 0 2 (more.map vV)), (67, vi more.length), (68, vi i), (11, .pb (cs.length + 1 + 1) 0), (12, vb p.2.1), (86, .sl 0 14 (m2.rules.map vRule)), (87, vi m2.rules.length), (88, vi p.1)], deckA l s1 :: [vi m2.kind, .sl 0 1 (m2.states.map vStr), .sl 0 1 (m2.places.map vStr), .sl 0 1 (m2.letters.map vStr), vs 0 m2.ranks, vi m2.levels, vi m2.age, .sl 0 14 (m2.rules.map vRule), vi m2.start.n, .sl 0 2 (m2.start.kids.map vV)] :: (Jk cs ++ ([vi x.n, .sl 0 2 (x.kids.map vV)] :: Jk p.2.2))⟩)
  (fun p => m2.rules.length - p.1) (fun p => p.1 <= m2.rules.length /\ chmA few x few.length p.2.1 /\ chmB m2.places.length m2.rules few x p.1 p.2.1) (0, b, ds) ⟨by show 0 <= _; omega, hmA, fun k hk => by cases hk⟩ ?_ ?_
 ·simp only [go_sem]
  all_goals exact leB_self _
 clear hmA hD d0 d1 e0 e2 h2
 rintro ⟨q, b, ds⟩ ⟨hq, hmA, hmB⟩
 simp only at hq hmA hmB
 have hD := Jk_len ds
 have d0 := fun L : List (List AV) => app_at0 (L := L) hD
 have d1 := fun (L : List (List AV)) (i : Nat) => app_at (L := L) (i := i) hD
 have e0 := fun (L : List (List AV)) z => app_set0 (L := L) (z := z) hD
 have e2 := fun (L : List (List AV)) (i : Nat) z => app_setN (L := L) (i := i) (z := z) hD
 by_cases h3 : q < m2.rules.length
 case neg =>
  obtain rfl : q = m2.rules.length := by omega
  have hbt : b = true := by
   rcases fx with fx | ⟨r, hr, y, hy, hp⟩
   ·obtain ⟨k, hk, e⟩ := List.getElem_of_mem fx
    exact hmA k hk (by rw [getElem!_pos few k hk]; exact e)
   ·obtain ⟨k, hk, e⟩ := List.getElem_of_mem hy
    obtain ⟨u, hu, e'⟩ := List.getElem_of_mem hr
    exact hmB u hu k hk (by rw [getElem!_pos few k hk, getElem!_pos _ u hu, e, e']; exact hp)
  subst hbt
  simp only [go_sem, h3, hwi]
  refine roundK.intro (i + 1, cs ++ (2 :: ds)) (by show i + 1 <= more.length; omega) (by show more.length - (i + 1) < more.length - i; omega) ?_
  simp only [go_sem]
  exact leB_JkA ⟨⟨leV_any _, leV_any _, trivial⟩, leB_self _⟩
 have hgr := getRule h3
 have hwq : IntKind.i64.wrap (q + 1) = q + 1 := wrap_in (by omega) (by omega)
 have hbq := hbr _ (mem_bangI h3)
 obtain ⟨r, hr⟩ : ∃ r, r = m2.rules[q]! := ⟨_, rfl⟩
 rw [<- hr] at hgr hbq
 have hrd : vRule r = .ag [vStr r.name, vi r.src, vi r.dst, vs 0 r.need, vs 0 r.give, vs 0 r.move, vi r.channel, vi r.act, vi r.letter, vs 0 r.path, vs 0 r.next, .sl 0 3 (r.takes.map vTake), vs 0 r.makes, vi r.second] := rfl
 rw [hrd] at hgr
 simp only [go_sem, h3, hgr, hB, n1, s1', hD, d0, e0, List.append_assoc, List.cons_append, List.length_append, List.length_cons, List.length_nil, List.length_map]
 refine LoopK.intro (fun p : Nat × Bool × List Nat => ⟨172, [(3, .pb 0 0), (4, .pb 1 0), (6, .sl 0 2 (few.map vV)), (66, .sl 0 2 (more.map vV)), (67, vi more.length), (68, vi i), (11, .pb (cs.length + 1 + 1) 0), (12, vb p.2.1), (86, .sl 0 14 (m2.rules.map vRule)), (87, vi m2.rules.length), (88, vi q), (16, .pb (cs.length + (ds.length + 1) + 1 + 1) 0), (92, .sl 0 2 (few.map vV)), (93, vi few.length), (94, vi p.1)], deckA l s1 :: [vi m2.kind, .sl 0 1 (m2.states.map vStr), .sl 0 1 (m2.places.map vStr), .sl 0 1 (m2.letters.map vStr), vs 0 m2.ranks, vi m2.levels, vi m2.age, .sl 0 14 (m2.rules.map vRule), vi m2.start.n, .sl 0 2 (m2.start.kids.map vV)] :: (Jk cs ++ ([vi x.n, .sl 0 2 (x.kids.map vV)] :: (Jk ds ++ ([vStr r.name, vi r.src, vi r.dst, vs 0 r.need, vs 0 r.give, vs 0 r.move, vi r.channel, vi r.act, vi r.letter, vs 0 r.path, vs 0 r.next, .sl 0 3 (r.takes.map vTake), vs 0 r.makes, vi r.second] :: Jk p.2.2))))⟩)
  (fun p => few.length - p.1) (fun p => p.1 <= few.length /\ chmA few x few.length p.2.1 /\ chmB m2.places.length m2.rules few x q p.2.1 /\ chmC m2.places.length r few x p.1 p.2.1) (0, b, []) ⟨by show 0 <= _; omega, hmA, hmB, fun k hk => by cases hk⟩ ?_ ?_
 ·simp only [go_sem, Jk, List.map_nil]
  all_goals exact leB_self _
 clear hmA hmB
 rintro ⟨j, b, es⟩ ⟨hj, hmA, hmB, hmC⟩
 simp only at hj hmA hmB hmC
 have hE := Jk_len es
 have f0 := fun L : List (List AV) => app_at0 (L := L) hE
 have f1 := fun (L : List (List AV)) (i : Nat) => app_at (L := L) (i := i) hE
 have g0 := fun (L : List (List AV)) z => app_set0 (L := L) (z := z) hE
 have g1 := fun (L : List (List AV)) (i : Nat) z => app_setN (L := L) (i := i) (z := z) hE
 by_cases h2 : j < few.length
 case neg =>
  obtain rfl : j = few.length := by omega
  simp only [go_sem, h2, hwq]
  refine roundK.intro (q + 1, b, ds ++ (14 :: es)) ⟨by show q + 1 <= _; omega, hmA, fun u hu k hk hp => ?_⟩ (by show m2.rules.length - (q + 1) < m2.rules.length - q; omega) ?_
  ·by_cases huq : u = q
   ·subst huq
    exact hmC k hk (by rw [hr]; exact hp)
   ·exact hmB u (by have : u < q + 1 := hu; omega) k hk hp
  ·simp only [go_sem]
   exact leB_app (leB_self _) ⟨leC_self _, leB_JkA ⟨⟨leV_any _, leV_any _, leV_any _, leV_any _, leV_any _, leV_any _, leV_any _, leV_any _, leV_any _, leV_any _, leV_any _, leV_any _, leV_any _, leV_any _, trivial⟩, leB_self _⟩⟩
 have hgy := getvV h2
 have hwj : IntKind.i64.wrap (j + 1) = j + 1 := wrap_in (by omega) (by omega)
 have ky := hkk2 _ (mem_bangI h2)
 obtain ⟨y, hy⟩ : ∃ y, y = few[j]! := ⟨_, rfl⟩
 rw [<- hy] at hgy ky
 simp only [go_sem, h2, hgy, hE, f0, g0, hB, n1, s1', hD, d1, e2, List.append_assoc, List.cons_append, List.length_append, List.length_cons, List.length_nil, List.length_map]
 have ky0 := kidAt ky (p := 0) (by omega)
 have kx0 := kidAt kx (p := 0) (by omega)
 have kyl := ky.len
 have kxl := kx.len
 have hy0 : 0 < y.kids.length := by omega
 have hx0 : 0 < x.kids.length := by omega
 by_cases ha : r.src = (y.kids[0]!).n
 case neg =>
  have ha' : (r.src != (y.kids[0]!).n) = true := bne_iff_ne.2 ha
  refine DrawK.walk 17 mixed (by kernel_rfl) ?_
  simp only [go_sem, hy0, ky0, ha', hwj, f0, n1, d0, d1, List.length_map]
  refine roundK.intro (j + 1, b, es ++ [2]) ⟨by show j + 1 <= _; omega, hmA, hmB, fun k hk hp => ?_⟩ (by show few.length - (j + 1) < few.length - j; omega) ?_
  ·by_cases hkj : k = j
   ·subst hkj
    rw [<- hy] at hp
    exact absurd hp.1 ha
   ·exact hmC k (by have : k < j + 1 := hk; omega) hp
  ·simp only [go_sem]
   exact leB_app (leB_self _) ⟨leC_self _, leB_app (leB_self _) ⟨leC_self _, leB_JkA ⟨⟨leV_any _, leV_any _, trivial⟩, trivial⟩⟩⟩
 have ha' : (r.src != (y.kids[0]!).n) = false := by rw [ha]; simp
 by_cases hb : r.dst = (x.kids[0]!).n
 case neg =>
  have hb' : (r.dst != (x.kids[0]!).n) = true := bne_iff_ne.2 hb
  refine DrawK.walk 17 mixed (by kernel_rfl) ?_
  simp only [go_sem, hy0, ky0, hx0, kx0, ha', hb', hwj, f0, n0, n1, d0, d1, List.length_map]
  refine roundK.intro (j + 1, b, es ++ [2]) ⟨by show j + 1 <= _; omega, hmA, hmB, fun k hk hp => ?_⟩ (by show few.length - (j + 1) < few.length - j; omega) ?_
  ·by_cases hkj : k = j
   ·subst hkj
    rw [<- hy] at hp
    exact absurd hp.2.1 hb
   ·exact hmC k (by have : k < j + 1 := hk; omega) hp
  ·simp only [go_sem]
   exact leB_app (leB_self _) ⟨leC_self _, leB_app (leB_self _) ⟨leC_self _, leB_JkA ⟨⟨leV_any _, leV_any _, trivial⟩, trivial⟩⟩⟩
 have hb' : (r.dst != (x.kids[0]!).n) = false := by rw [hb]; simp
 refine DrawK.walk 17 mixed (by kernel_rfl) ?_
 simp only [go_sem, hy0, ky0, hx0, kx0, ha', hb', f0, n0, n1, d0, d1, List.length_map]
 refine LoopK.intro (fun p : Nat × Bool => ⟨172, [(3, .pb 0 0), (4, .pb 1 0), (6, .sl 0 2 (few.map vV)), (66, .sl 0 2 (more.map vV)), (67, vi more.length), (68, vi i), (11, .pb (cs.length + 1 + 1) 0), (12, vb b), (86, .sl 0 14 (m2.rules.map vRule)), (87, vi m2.rules.length), (88, vi q), (16, .pb (cs.length + (ds.length + 1) + 1 + 1) 0), (92, .sl 0 2 (few.map vV)), (93, vi few.length), (94, vi j), (18, .pb (cs.length + (ds.length + (es.length + 1) + 1) + 1 + 1) 0), (19, vb p.2), (118, vi m2.places.length), (119, vi p.1)], deckA l s1 :: [vi m2.kind, .sl 0 1 (m2.states.map vStr), .sl 0 1 (m2.places.map vStr), .sl 0 1 (m2.letters.map vStr), vs 0 m2.ranks, vi m2.levels, vi m2.age, .sl 0 14 (m2.rules.map vRule), vi m2.start.n, .sl 0 2 (m2.start.kids.map vV)] :: (Jk cs ++ ([vi x.n, .sl 0 2 (x.kids.map vV)] :: (Jk ds ++ ([vStr r.name, vi r.src, vi r.dst, vs 0 r.need, vs 0 r.give, vs 0 r.move, vi r.channel, vi r.act, vi r.letter, vs 0 r.path, vs 0 r.next, .sl 0 3 (r.takes.map vTake), vs 0 r.makes, vi r.second] :: (Jk es ++ [[vi y.n, .sl 0 2 (y.kids.map vV)]])))))⟩)
  (fun p => m2.places.length - p.1) (fun p => p.1 <= m2.places.length /\ chmD r y x p.1 p.2) (0, true) ⟨by show 0 <= _; omega, fun _ => rfl⟩ ?_ ?_
 ·simp only [go_sem]
  all_goals exact leB_self _
 rintro ⟨p, c⟩ ⟨hp, hmD⟩
 simp only at hp hmD
 by_cases h4 : p < m2.places.length
 case neg =>
  obtain rfl : p = m2.places.length := by omega
  simp only [go_sem, h4]
  cases b with
  | true =>
   simp only [go_sem, hwj]
   refine roundK.intro (j + 1, true, es ++ [2]) ⟨by show j + 1 <= _; omega, fun _ _ _ => rfl, fun _ _ _ _ _ => rfl, fun _ _ _ => rfl⟩ (by show few.length - (j + 1) < few.length - j; omega) ?_
   simp only [go_sem]
   exact leB_app (leB_self _) ⟨leC_self _, leB_app (leB_self _) ⟨leC_self _, leB_JkA ⟨⟨leV_any _, leV_any _, trivial⟩, trivial⟩⟩⟩
  | false =>
   simp only [go_sem, hwj]
   refine roundK.intro (j + 1, c, es ++ [2]) ⟨by show j + 1 <= _; omega, fun k hk e => absurd (hmA k hk e) (by simp), fun u hu k hk e => absurd (hmB u hu k hk e) (by simp), fun k hk e => ?_⟩ (by show few.length - (j + 1) < few.length - j; omega) ?_
   ·by_cases hkj : k = j
    ·subst hkj
     rw [<- hy] at e
     exact hmD fun u hu => e.2.2 u hu
    ·exact absurd (hmC k (by have : k < j + 1 := hk; omega) e) (by simp)
   ·simp only [go_sem]
    exact leB_app (leB_self _) ⟨leC_self _, leB_app (leB_self _) ⟨leC_self _, leB_JkA ⟨⟨leV_any _, leV_any _, trivial⟩, trivial⟩⟩⟩
 have hnl := hbq.bra.need
 have hgl := hbq.bra.give
 have hpn : p < r.need.length := by omega
 have hpg : p < r.give.length := by omega
 have hgn := getv hpn
 have hgg := getv hpg
 have b1 := hbq.bra.lowN p h4
 have b2 := hbq.bra.lowG p h4
 have b3 := hbq.low p h4
 have b4 := ky.num p h4
 have b5 := kx.num p h4
 have kyp := kidAt ky (p := p + 1) (by omega)
 have kxp := kidAt kx (p := p + 1) (by omega)
 have hyp : (p : Int) + 1 < (y.kids.length : Int) := by omega
 have hxp : (p : Int) + 1 < (x.kids.length : Int) := by omega
 have hwp : IntKind.i64.wrap (p + 1) = p + 1 := wrap_in (by omega) (by omega)
 have hw2 : IntKind.i64.wrap (1 + (p : Int)) = ((p + 1 : Nat) : Int) := by rw [wrap_in (by omega) (by omega)]; omega
 have ht : ((p : Int) + 1).toNat = p + 1 := by omega
 have hD1 : goodP r y x p ↔ r.need[p]! <= (y.kids[p + 1]!).n /\ (y.kids[p + 1]!).n - r.need[p]! + r.give[p]! = (x.kids[p + 1]!).n := Iff.rfl
 generalize r.need[p]! = nd at hgn b1 hD1
 generalize r.give[p]! = gv at hgg b2 b3 hD1
 generalize (y.kids[p + 1]!).n = yn at kyp b4 hD1
 generalize (x.kids[p + 1]!).n = xn at kxp b5 hD1
 have hwa : IntKind.i64.wrap (yn - nd) = yn - nd := wrap_in (by omega) (by omega)
 have hwb : IntKind.i64.wrap (yn - nd + gv) = yn - nd + gv := wrap_in (by omega) (by omega)
 simp only [go_sem, h4, hw2, ht, hyp, kyp, f0, n1, d1, List.length_map]
 refine ⟨by omega, ?_⟩
 cases c with
 | false =>
   refine DrawK.walk 33 mixed (by kernel_rfl) ?_
   simp only [go_sem, hwp]
   refine roundK.intro (p + 1, false) ⟨by show p + 1 <= _; omega, fun hall => absurd (hmD fun u hu => hall u (by omega)) (by simp)⟩ (by show m2.places.length - (p + 1) < m2.places.length - p; omega) ?_
   simp only [go_sem]
 | true =>
  by_cases hge : nd <= yn
  case neg =>
   refine DrawK.walk 33 mixed (by kernel_rfl) ?_
   simp only [go_sem, hge, hpn, hgn, hwp, n1, d0, List.length_map]
   refine roundK.intro (p + 1, false) ⟨by show p + 1 <= _; omega, fun hall => absurd (hD1.1 (hall p (by omega))).1 hge⟩ (by show m2.places.length - (p + 1) < m2.places.length - p; omega) ?_
   simp only [go_sem]
  case pos =>
   refine DrawK.walk 33 mixed (by kernel_rfl) ?_
   simp only [go_sem, hge, hpn, hpg, hgn, hgg, hwa, hwb, hw2, ht, hxp, kxp, hwp, n0, n1, d0, List.length_map]
   refine ⟨by omega, ?_⟩
   refine roundK.intro (p + 1, yn - nd + gv == xn) ⟨by show p + 1 <= _; omega, fun hall => beq_iff_eq.2 (hD1.1 (hall p (by omega))).2⟩ (by show m2.places.length - (p + 1) < m2.places.length - p; omega) ?_
   simp only [go_sem]
end Go.AM
