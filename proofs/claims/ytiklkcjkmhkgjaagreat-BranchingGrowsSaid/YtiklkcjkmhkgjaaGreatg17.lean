/- BrJ BrJ2 Am9 BrK GI BrL BrC HA HB BrD LMod -/
import Derived.Test.YtiklkcjkmhkgjaaGreatg16
import Derived.Test.YtiklkcjkmhkgjaaGreatg9
import Derived.Test.YtiklkcjkmhkgjaaGreatg6
import Derived.Test.YtiklkcjkmhkgjaaGreatg13
import Derived.Test.YtiklkcjkmhkgjaaGreatg15
import Derived.Test.YtiklkcjkmhkgjaaGreatg7
namespace Go.AM
open Go Go.Proofs Go.RowKit
set_option maxRecDepth 100000
set_option maxHeartbeats 8000000
theorem ConX.leA {P : Program} {f : FuncId} {args args' : List AV} {bx : List (List AV)} {post : AV -> List (List AV) -> Prop} (h : ConX P f args bx post) (ha : leC args' args) : ConX P f args' bx post :=
 ⟨h.1, fun G w vs h1 h2 h3 h4 => h.2 G w vs h1 h2 h3 (leC_pw ha h4)⟩
@[go_sem] theorem rowsF_shift {N t k q : Nat} {F : FamB (Int × List Int) CV} (h : t + q < 1048576) : (rowsF N t k F).map (shiftRow q) = rowsF N (t + q) k F :=
 rowsF_map rfl (fun x => by simp [shiftRow, shiftTag]) fun x => by simp only [shiftRow, shiftTag, sub_lt2, if_false, sub_add h]
@[go_sem] theorem rowsF_renl {N t k : Nat} {ts : List Nat} {F : FamB (Int × List Int) CV} (h : t < 1048576) (h2 : 2 + ts.idxOf t < 1048576) : (rowsF N t k F).map (renRow ts) = rowsF N (2 + ts.idxOf t) k F := by
 refine rowsF_map rfl (fun x => rfl) fun x => ?_
 simp only [renRow, sub_two, if_true, renT_sub h h2]
theorem mvT_sub {a b k : Nat} (h : a < 1048576) (hb : b < 1048576) : mvT a b (subT a k) = subT b k := by
 unfold mvT subT
 rw [Nat.mod_eq_of_lt h, Nat.div_eq_of_lt h, Nat.mod_eq_of_lt hb, Nat.div_eq_of_lt hb]; omega
@[go_sem] theorem rowsF_mv {N a b k : Nat} {F : FamB (Int × List Int) CV} (h : a < 1048576) (hb : b < 1048576) (ha : (0 = a) = False) : (rowsF N a k F).map (mvRow a b) = rowsF N b k F := by
 refine rowsF_map rfl (fun x => ?_) fun x => ?_
 ·have : ¬ root 0 = a := by unfold root; intro e; exact ha.mp (by omega)
  simp only [mvRow, if_neg this]
 ·have : root (subT a k) = a := by rw [root_sub]; unfold root; omega
  simp only [mvRow, this, if_true, mvT_sub h hb]
theorem addE_lim (F : FamB (Int × List Int) CV) (k : Nat) (x : ResB (Int × List Int)) : (addE F x == 1) = (addB valB insV F k x).2 := by
 cases x with
 | limit => rfl
 | blocked => rfl
 | ok s =>
  unfold addE addB
  by_cases h : valB s ∈ F.known
  ·simp only [h, if_true]; rfl
  ·by_cases h2 : F.known.length = 256
   ·simp only [h, h2, if_true, if_false]; rfl
   ·simp only [h, h2, if_false]; rfl
theorem add_ok {F : FamB (Int × List Int) CV} {k : Nat} {x : ResB (Int × List Int)} : (addB valB insV F k x).1 = F \/ ∃ s, x = .ok s /\ (addB valB insV F k x).1 = ⟨fun j => if j = k then F.sizes j ++ [s] else F.sizes j, insV F.known (valB s)⟩ := by
 cases x with
 | limit => exact .inl rfl
 | blocked => exact .inl rfl
 | ok s =>
  unfold addB
  by_cases h1 : valB s ∈ F.known
  ·simp only [h1, if_true]; exact .inl trivial
  ·by_cases h2 : F.known.length = 256
   ·simp only [h1, h2, if_true, if_false]; exact .inl trivial
   ·simp only [h1, h2, if_false]; exact .inr ⟨s, rfl, rfl⟩
theorem famOk_add {np k : Nat} {F : FamB (Int × List Int) CV} (hnp : np <= 1000) (h : FamOk np F) {x : ResB (Int × List Int)} (hx : ∀ s, x = .ok s -> SmB np s) : FamOk np (addB valB insV F k x).1 := by
 have e1 := add_sort (cmp := cmpV) (val := valB) ordV k h.sort x
 have e2 := add_len256 (cmp := cmpV) (val := valB) k h.few x
 have key := add_ok (F := F) (k := k) (x := x)
 change SortB cmpV (addB valB insV F k x).1.known at e1
 change (addB valB insV F k x).1.known.length <= 256 at e2
 rcases key with e | ⟨s, rfl, e⟩
 ·rw [e]; exact h
 ·rw [e] at e1 e2 ⊢
  have hs := hx s rfl
  have hi : (insV F.known (valB s)).length = F.known.length + 1 := ins_len _ _
  refine ⟨e1, e2, fun c hc => ?_, fun j => ?_, fun j t ht => ?_⟩
  ·rcases (ins_mem (cmp := cmpV) _ _ _).1 hc with hc | rfl
   ·exact h.ok c hc
   ·exact val_ok (by rw [hs.1]; omega)
  ·have := h.small j
   show (if j = k then F.sizes j ++ [s] else F.sizes j).length <= (insV F.known (valB s)).length
   rw [hi]
   split
   ·rw [List.length_append, List.length_singleton]; omega
   ·omega
  ·have ht : t ∈ (if j = k then F.sizes j ++ [s] else F.sizes j) := ht
   split at ht
   ·rcases List.mem_append.1 ht with ht | ht
    ·exact h.sm j t ht
    ·rw [List.mem_singleton] at ht; rw [ht]; exact hs
   ·exact h.sm j t ht
theorem same_add (F : FamB (Int × List Int) CV) (k : Nat) (x : ResB (Int × List Int)) {j : Nat} (hj : j ≠ k) : (addB valB insV F k x).1.sizes j = F.sizes j := (add_more (ins_mem (cmp := cmpV)) F k x).same j hj
theorem adds_cons (F : FamB (Int × List Int) CV) (k : Nat) (x : ResB (Int × List Int)) (l : List (ResB (Int × List Int))) : addsB valB insV F k (x :: l) = if (addB valB insV F k x).2 = true then addB valB insV F k x else addsB valB insV (addB valB insV F k x).1 k l := rfl
theorem prem_le (r : RD) : (premB r).length <= 2 := by unfold premB; split <;> (try split) <;> simp
theorem ruBra_p (np : Nat) (r : RD) : (ruBra np r).p = (premB r).length := rfl
theorem app_smx {np : Nat} {r : RD} {l : List (Int × List Int)} (hr : BrR np r) : ∀ s, appB np r l = .ok s -> SmB np s := fun _ h => app_sm hr h
theorem adds_one (F : FamB (Int × List Int) CV) (k : Nat) (x : ResB (Int × List Int)) : addsB valB insV F k [x] = addB valB insV F k x := by
 rw [adds_cons]
 split
 ·rfl
 ·rename_i h
  have h := Bool.eq_false_iff.2 h
  show ((addB valB insV F k x).1, false) = _
  rw [<- h]
def stG (m : MD) (r : RD) (_N k : Nat) (F : FamB (Int × List Int) CV) : FamB (Int × List Int) CV × Bool := addsB valB insV F k (tupB F.sizes k (ruBra m.places.length r))
theorem con_bgrow1 (m : MD) (r : RD) (N k : Nat) (F : FamB (Int × List Int) CV) (hp : 1 <= m.places.length /\ m.places.length <= 1000) (hr : BrR m.places.length r)
  (hF : FamOk m.places.length F) (hk : k < N) (hk1 : 1 <= k) (hN : N <= 7) (hn : (premB r).length <= 1) :
  ConX Tryz.prog 57 [.pb 0 0, vi k, vRule r] [famC m N 2 3 k F]
   fun x b => ∃ e, x = vi e /\ (e == 1) = (stG m r N k F).2 /\ b = [famC m N 2 3 k (stG m r N k F).1] := by
 have hpr := con_bprem r
 refine ConX.intro Tryz.func57 rfl Tryz.ntmps57 Tryz.results57 (by kernel_rfl) (by simp) 1 (by simp) ?_
 rw [vRule_cR] at *
 by_cases h0 : (premB r).length = 0
 ·have ht : stG m r N k F = addsB valB insV F k (if k = 1 then [appB m.places.length r []] else []) := by unfold stG tupB; rw [ruBra_p, h0]; rfl
  have h0' : ((0 : Nat) : Int) = 0 := rfl
  simp only [go_sem, famC, knownA, cM, cR, vss]
  refine CallU.free hpr (by simp only [go_sem]) (by simp only [go_sem, cR]) ?_
  rintro z bx rfl
  by_cases h1 : k = 1
  ·subst h1
   have hba := (con_badd m r [] N 1 F hp hr h0.symm (fun s hs => by cases hs) hF hk).leA (args' := [.pb 0 0, .sc (.int .i64 1), .ag (cR r), .nil]) ⟨leV_refl _, leV_refl _, leV_refl _, leV_nil 0 2, trivial⟩
   rw [if_pos rfl, adds_one] at ht
   have hlim := addE_lim F 1 (appB m.places.length r [])
   rw [<- ht] at hlim hba
   simp only [go_sem, h0]
   refine CallU.own (i := 0) (is := []) (bx0 := [famC m N 2 3 1 F]) hba (by simp only [go_sem]) (by simp only [go_sem, famC, knownA, cM, vss]) [2, 3] (by simp only [go_sem, famC, knownA, cM, vss]) (by simp only [go_sem, famC, knownA, cM, vss]) (by simp only [go_sem, cR]) (by simp only [go_sem, famC, knownA, cM, vss]) ?_
   rintro x b ⟨rfl, rfl⟩
   simp only [go_sem, famC, knownA, cM, vss]
   exact ⟨_, rfl, hlim⟩
  ·rw [if_neg h1] at ht
   have h1' : ((k : Int) == 1) = false := beq_eq_false_iff_ne.2 (by omega)
   simp only [go_sem, h0, h1']
   rw [ht]
   first | exact ⟨0, rfl, rfl, rfl⟩ | exact ⟨0, rfl, rfl⟩
 have hl1 : (premB r).length = 1 := by omega
 have ht : stG m r N k F = addsB valB insV F k ((F.sizes (k - 1)).map fun s => appB m.places.length r [s]) := by unfold stG tupB; rw [ruBra_p, hl1]; rfl
 obtain ⟨R, hR⟩ : ∃ R, R = stG m r N k F := ⟨_, rfl⟩
 rw [<- hR] at ht ⊢
 have hgr : (rowsF N 2 k F)[k - 1]? = some (.sl 0 2 ((F.sizes (k - 1)).map vSb)) := by rw [rowsF_at (by omega)]; unfold rowA; rw [if_pos (by omega)]
 have hsml := hF.small (k - 1)
 have hfew := hF.few
 have hsm := hF.sm (k - 1)
 obtain ⟨L, hL⟩ : ∃ L, L = F.sizes (k - 1) := ⟨_, rfl⟩
 rw [<- hL] at ht hgr hsml hsm
 have hwk : IntKind.i64.wrap ((k : Int) - 1) = ((k - 1 : Nat) : Int) := by rw [wrap_in (by omega) (by omega)]; omega
 have hkN : k - 1 < N := by omega
 simp only [go_sem, famC, knownA, cM, cR, vss]
 refine CallU.free hpr (by simp only [go_sem]) (by simp only [go_sem, cR]) ?_
 rintro z bx rfl
 simp only [go_sem, hl1, hwk, hkN, hgr]
 refine LoopK.intro (fun p : Nat × FamB (Int × List Int) CV => ⟨93, [(0, .pb 0 0), (1, vi k), (5, .pb 1 0), (6, vi 0), (34, .sl 0 2 (L.map vSb)), (35, vi L.length), (36, vi p.1)], famC m N 2 3 k p.2 :: cR r :: Rk 2 p.1⟩)
  (fun p => L.length - p.1) (fun p => p.1 <= L.length /\ FamOk m.places.length p.2 /\ addsB valB insV p.2 k ((L.drop p.1).map fun s => appB m.places.length r [s]) = R) (0, F) ⟨by show 0 <= _; omega, hF, by rw [List.drop_zero]; exact ht.symm⟩ ?_ ?_
 ·simp only [go_sem, famC, knownA, cM, cR, vss]
  all_goals exact leB_self []
 rintro ⟨i, G⟩ ⟨hi, hG, hE⟩
 simp only at hi hG hE
 by_cases h : i < L.length
 ·have hg := getSb h
  have hw : IntKind.i64.wrap (i + 1) = i + 1 := wrap_in (by omega) (by omega)
  have hB := Rk_len 2 i
  have n0 := fun L : List (List AV) => app_at0 (L := L) hB
  have s0 := fun (L : List (List AV)) z => app_set0 (L := L) (z := z) hB
  have hba := con_badd m r [L[i]!] N k G hp hr hl1.symm (fun s hs => by rw [List.mem_singleton] at hs; rw [hs]; exact hsm _ (mem_bang h)) hG hk
  have hlim := addE_lim G k (appB m.places.length r [L[i]!])
  have hGn := famOk_add (k := k) (by omega) hG (x := appB m.places.length r [L[i]!]) (app_smx hr)
  have ed : L.drop i = L[i]! :: L.drop (i + 1) := by rw [<- List.getElem_cons_drop h, <- getElem!_pos L i h]
  rw [ed, List.map_cons, adds_cons] at hE
  generalize L[i]! = s at hg hba hlim hGn hE
  rw [vRule_cR] at hba
  simp only [vSb, List.map_cons, List.map_nil] at hba
  simp only [go_sem, famC, knownA, cM, cR, vss, h, hg, hB, n0, s0]
  refine CallU.ownF [2880] [.pb 0 0, vi k, .ag (cR r), .sl 0 2 [.ag [vi s.1, vs 0 s.2]]] (i := 0) (is := []) (bx0 := [famC m N 2 3 k G]) hba (by simp only [go_sem]) (by simp only [go_sem, cR]) (by simp only [go_sem]) (by simp only [go_sem, famC, knownA, cM, vss]) [2, 3] (by simp only [go_sem, famC, knownA, cM, cR, vss]) (by simp only [go_sem, famC, knownA, cM, cR, vss]) (by simp only [go_sem, cR]) (by simp only [go_sem, famC, knownA, cM, vss]) ?_
  rintro x b ⟨rfl, rfl⟩
  cases hb : (addB valB insV G k (appB m.places.length r [s])).2
  ·rw [hb, if_neg (by simp)] at hE
   rw [hb] at hlim
   simp only [go_sem, famC, knownA, cM, vss, hlim, hw]
   refine roundK.turn (i + 1, (addB valB insV G k (appB m.places.length r [s])).1) ⟨by show i + 1 <= _; omega, hGn, hE⟩ (by show L.length - (i + 1) < L.length - i; omega) (Turn.mv 2946 2 (by omega) (by omega) (by omega) (Turn.mv 2947 3 (by omega) (by omega) (by omega) (Turn.le ?_)))
   have hm1 : mvT 2946 2 2946 = 2 := rfl
   have hm2 : mvT 2947 3 2947 = 3 := rfl
   have hk1 : mapB (mvLeaf 2947 3) (mapB (mvLeaf 2946 2) (mapB (killS [2, 3]) (Rk 2 i))) = Rk 2 i := by rw [mapB_Rk rfl, mapB_Rk rfl, mapB_Rk rfl]
   simp only [go_sem, Rk_succ, hm1, hm2, hk1]
   exact leB_RkA (x := [[_, _]]) (y := [List.replicate 2 .any]) ⟨⟨leV_any _, leV_any _, trivial⟩, trivial⟩
  ·rw [hb, if_pos rfl] at hE
   rw [hb] at hlim
   rw [<- hE]
   simp only [go_sem, famC, knownA, cM, vss, hlim]
   exact ⟨1, rfl, by rw [hb]; rfl⟩
 ·obtain rfl : i = L.length := by omega
  rw [List.drop_length, List.map_nil] at hE
  have hE' : R = (G, false) := hE.symm
  simp only [go_sem, famC, knownA, cM, cR, vss, h]
  rw [hE']
  first | exact ⟨0, rfl, rfl, rfl⟩ | exact ⟨0, rfl, rfl⟩
def inB (np : Nat) (r : RD) (s : Int × List Int) (L : List (Int × List Int)) : List (ResB (Int × List Int)) := L.map fun t => appB np r [s, t]
def midB (np : Nat) (r : RD) (S L : List (Int × List Int)) : List (ResB (Int × List Int)) := S.flatMap fun s => inB np r s L
def outB2 (np : Nat) (r : RD) (sz : Nat -> List (Int × List Int)) (k : Nat) (A : List Nat) : List (ResB (Int × List Int)) := A.flatMap fun a => midB np r (sz (a + 1)) (sz (k - 1 - (a + 1)))
theorem Rk_mid (n j : Nat) : Rk 2 n ++ ([List.replicate 2 .any] ++ Rk 2 j) = Rk 2 (n + 1 + j) := by
 unfold Rk
 rw [show [List.replicate 2 AV.any] = List.replicate 1 (List.replicate 2 AV.any) from rfl, List.replicate_append_replicate, List.replicate_append_replicate]
 congr 1; omega
theorem con_bgrow2 (m : MD) (r : RD) (N k : Nat) (F : FamB (Int × List Int) CV) (hp : 1 <= m.places.length /\ m.places.length <= 1000) (hr : BrR m.places.length r)
  (hF : FamOk m.places.length F) (hk : k < N) (hk1 : 1 <= k) (hN : N <= 7) (hn : (premB r).length = 2) :
  ConX Tryz.prog 57 [.pb 0 0, vi k, vRule r] [famC m N 2 3 k F]
   fun x b => ∃ e, x = vi e /\ (e == 1) = (stG m r N k F).2 /\ b = [famC m N 2 3 k (stG m r N k F).1] := by
 have hpr := con_bprem r
 refine ConX.intro Tryz.func57 rfl Tryz.ntmps57 Tryz.results57 (by kernel_rfl) (by simp) 1 (by simp) ?_
 rw [vRule_cR] at *
 have ht : stG m r N k F = addsB valB insV F k (outB2 m.places.length r F.sizes k (List.range (k - 2))) := by unfold stG tupB; rw [ruBra_p, hn]; rfl
 obtain ⟨R, hR⟩ : ∃ R, R = stG m r N k F := ⟨_, rfl⟩
 rw [<- hR] at ht ⊢
 have hsmall : ∀ j, (F.sizes j).length <= 256 := fun j => by have := hF.small j; have := hF.few; omega
 have hsm := hF.sm
 generalize hsz : F.sizes = sz at ht hsmall hsm
 have hwk : IntKind.i64.wrap ((k : Int) - 1) = ((k - 1 : Nat) : Int) := by rw [wrap_in (by omega) (by omega)]; omega
 simp only [go_sem, famC, knownA, cM, cR, vss]
 refine CallU.free hpr (by simp only [go_sem]) (by simp only [go_sem, cR]) ?_
 rintro z bx rfl
 simp only [go_sem, hn]
 refine LoopK.intro (fun p : Nat × Nat × FamB (Int × List Int) CV => ⟨93, [(0, .pb 0 0), (1, vi k), (5, .pb 1 0), (6, vi 0), (9, vi ((p.1 : Int) + 1))], famC m N 2 3 k p.2.2 :: cR r :: Rk 2 p.2.1⟩)
  (fun p => k - p.1) (fun p => p.1 <= k - 2 /\ FamOk m.places.length p.2.2 /\ (∀ j, j ≠ k -> p.2.2.sizes j = sz j) /\ addsB valB insV p.2.2 k (outB2 m.places.length r sz k ((List.range (k - 2)).drop p.1)) = R) (0, 0, F) ⟨by show 0 <= _; omega, hF, fun j _ => by rw [<- hsz], by rw [List.drop_zero]; exact ht.symm⟩ ?_ ?_
 ·simp only [go_sem, famC, knownA, cM, cR, vss]
  all_goals exact leB_self []
 rintro ⟨a, n, G⟩ ⟨ha, hG, hGs, hE⟩
 simp only at ha hG hGs hE
 by_cases h : a + 1 < k - 1
 ·have hq : (a : Int) + 1 < ((k - 1 : Nat) : Int) := by omega
  have htn : ((a : Int) + 1).toNat = a + 1 := by omega
  have hnn : (0 : Int) <= (a : Int) + 1 := by omega
  have hNi : (a : Int) + 1 < (N : Int) := by omega
  have har : a < (List.range (k - 2)).length := by rw [List.length_range]; omega
  have ed : (List.range (k - 2)).drop a = a :: (List.range (k - 2)).drop (a + 1) := by rw [<- List.getElem_cons_drop har, List.getElem_range]
  rw [ed] at hE
  have haN : a + 1 < N := by omega
  have hg1 : (rowsF N 2 k G)[a + 1]? = some (.sl 0 2 ((sz (a + 1)).map vSb)) := by rw [rowsF_at (by omega)]; unfold rowA; rw [if_pos (by omega), hGs _ (by omega)]
  obtain ⟨S, hS⟩ : ∃ S, S = sz (a + 1) := ⟨_, rfl⟩
  obtain ⟨L, hL⟩ : ∃ L, L = sz (k - 1 - (a + 1)) := ⟨_, rfl⟩
  have hSs : S.length <= 256 := by rw [hS]; exact hsmall _
  have hLs : L.length <= 256 := by rw [hL]; exact hsmall _
  have hSm : ∀ s ∈ S, SmB m.places.length s := by rw [hS]; exact hsm _
  have hLm : ∀ s ∈ L, SmB m.places.length s := by rw [hL]; exact hsm _
  have hE2 : addsB valB insV G k (midB m.places.length r S L ++ outB2 m.places.length r sz k ((List.range (k - 2)).drop (a + 1))) = R := by rw [hS, hL]; exact hE
  have hwa : IntKind.i64.wrap ((a : Int) + 1 + 1) = ((a + 1 : Nat) : Int) + 1 := by rw [wrap_in (by omega) (by omega)]; omega
  rw [<- hS] at hg1
  simp only [go_sem, famC, knownA, cM, cR, vss, hwk, hq, htn, hnn, hNi, hg1]
  refine LoopK.intro (fun p : Nat × Nat × FamB (Int × List Int) CV => ⟨93, [(0, .pb 0 0), (1, vi k), (5, .pb 1 0), (6, vi 0), (9, vi ((a : Int) + 1)), (62, .sl 0 2 (S.map vSb)), (63, vi S.length), (64, vi p.1)], famC m N 2 3 k p.2.2 :: cR r :: Rk 2 p.2.1⟩)
   (fun p => S.length - p.1) (fun p => p.1 <= S.length /\ FamOk m.places.length p.2.2 /\ (∀ j, j ≠ k -> p.2.2.sizes j = sz j) /\ addsB valB insV p.2.2 k (midB m.places.length r (S.drop p.1) L ++ outB2 m.places.length r sz k ((List.range (k - 2)).drop (a + 1))) = R) (0, n, G) ⟨by show 0 <= _; omega, hG, hGs, by rw [List.drop_zero]; exact hE2⟩ ?_ ?_
  ·simp only [go_sem, famC, knownA, cM, cR, vss]
  clear hE hE2 hGs hG
  rintro ⟨i, n, G⟩ ⟨hi, hG, hGs, hE⟩
  simp only at hi hG hGs hE
  by_cases h2 : i < S.length
  ·have hg := getSb h2
   have hwi : IntKind.i64.wrap (i + 1) = i + 1 := wrap_in (by omega) (by omega)
   have hB := Rk_len 2 n
   have n0 := fun L : List (List AV) => app_at0 (L := L) hB
   have s0 := fun (L : List (List AV)) z => app_set0 (L := L) (z := z) hB
   have eS : S.drop i = S[i]! :: S.drop (i + 1) := by rw [<- List.getElem_cons_drop h2, <- getElem!_pos S i h2]
   have hSi := hSm _ (mem_bang h2)
   rw [eS] at hE
   generalize S[i]! = s at hg hSi hE
   have hE2 : addsB valB insV G k (inB m.places.length r s L ++ (midB m.places.length r (S.drop (i + 1)) L ++ outB2 m.places.length r sz k ((List.range (k - 2)).drop (a + 1)))) = R := by
    rw [<- hE]; unfold midB; rw [List.flatMap_cons, List.append_assoc]
   obtain ⟨REST, hREST⟩ : ∃ REST, REST = midB m.places.length r (S.drop (i + 1)) L ++ outB2 m.places.length r sz k ((List.range (k - 2)).drop (a + 1)) := ⟨_, rfl⟩
   rw [<- hREST] at hE2
   have hidx : IntKind.i64.wrap (((k - 1 : Nat) : Int) - ((a : Int) + 1)) = ((k - 1 - (a + 1) : Nat) : Int) := by rw [wrap_in (by omega) (by omega)]; omega
   have hg2 : (rowsF N 2 k G)[k - 1 - (a + 1)]? = some (.sl 0 2 (L.map vSb)) := by rw [rowsF_at (by omega)]; unfold rowA; rw [if_pos (by omega), hGs _ (by omega), hL]
   have hidN : k - 1 - (a + 1) < N := by omega
   simp only [go_sem, famC, knownA, cM, cR, vss, h2, hg, hB, n0, s0, hwk, hidx, hg2, hidN]
   have hks := fun q => (mapB_Rk rfl 2 q : mapB (killS [2, 3]) (Rk 2 q) = Rk 2 q)
   have hm1 : mvT 5762 2 5762 = 2 := rfl
   have hm2 : mvT 5763 3 5763 = 3 := rfl
   have hmv1 := fun q => (mapB_Rk rfl 2 q : mapB (mvLeaf 5762 2) (Rk 2 q) = Rk 2 q)
   have hmv2 := fun q => (mapB_Rk rfl 2 q : mapB (mvLeaf 5763 3) (Rk 2 q) = Rk 2 q)
   refine LoopK.intro (fun p : Nat × FamB (Int × List Int) CV => ⟨93, [(0, .pb 0 0), (1, vi k), (5, .pb 1 0), (6, vi 0), (9, vi ((a : Int) + 1)), (11, .pb (n + 1 + 1) 0), (62, .sl 0 2 (S.map vSb)), (63, vi S.length), (64, vi i), (77, .sl 0 2 (L.map vSb)), (78, vi L.length), (79, vi p.1)], famC m N 2 3 k p.2 :: cR r :: (Rk 2 n ++ [[vi s.1, vs 0 s.2]] ++ Rk 2 p.1)⟩)
    (fun p => L.length - p.1) (fun p => p.1 <= L.length /\ FamOk m.places.length p.2 /\ (∀ j, j ≠ k -> p.2.sizes j = sz j) /\ addsB valB insV p.2 k (inB m.places.length r s (L.drop p.1) ++ REST) = R) (0, G) ⟨by show 0 <= _; omega, hG, hGs, by rw [List.drop_zero]; exact hE2⟩ ?_ ?_
   ·have e0 : Rk 2 0 = [] := rfl
    simp only [go_sem, famC, knownA, cM, cR, vss, e0, List.append_nil]
    all_goals exact leB_self _
   clear hE hE2 hGs hG
   rintro ⟨j, G⟩ ⟨hj, hG, hGs, hE⟩
   simp only at hj hG hGs hE
   have hB2 : (Rk 2 n ++ [[AV.sc (.int .i64 s.1), AV.sl 0 1 (s.2.map vi)]] ++ Rk 2 j).length = n + 1 + j := by simp only [List.length_append, Rk_len, List.length_cons, List.length_nil]
   have n2 := fun X : List (List AV) => app_at0 (L := X) hB2
   have s2 := fun (X : List (List AV)) z => app_set0 (L := X) (z := z) hB2
   have hget : ∀ X, (Rk 2 n ++ [[AV.sc (.int .i64 s.1), AV.sl 0 1 (s.2.map vi)]] ++ Rk 2 j ++ X)[n]? = some [AV.sc (.int .i64 s.1), AV.sl 0 1 (s.2.map vi)] := fun X => by
    rw [List.append_assoc, List.append_assoc, app_at0 hB]; rfl
   by_cases h3 : j < L.length
   ·have hg3 := getSb h3
    have hwj : IntKind.i64.wrap (j + 1) = j + 1 := wrap_in (by omega) (by omega)
    have eL : L.drop j = L[j]! :: L.drop (j + 1) := by rw [<- List.getElem_cons_drop h3, <- getElem!_pos L j h3]
    have hLj := hLm _ (mem_bang h3)
    rw [eL] at hE
    generalize L[j]! = t at hg3 hLj hE
    have hE : addsB valB insV G k (appB m.places.length r [s, t] :: (inB m.places.length r s (L.drop (j + 1)) ++ REST)) = R := hE
    rw [adds_cons] at hE
    have hba := con_badd m r [s, t] N k G hp hr hn.symm (fun u hu => by
     rcases List.mem_cons.1 hu with rfl | hu
     ·exact hSi
     ·rw [List.mem_singleton] at hu; rw [hu]; exact hLj) hG hk
    have hlim := addE_lim G k (appB m.places.length r [s, t])
    have hGn := famOk_add (k := k) (by omega) hG (x := appB m.places.length r [s, t]) (app_smx hr)
    have hGns := fun j hj => (same_add G k (appB m.places.length r [s, t]) (j := j) hj).trans (hGs j hj)
    rw [vRule_cR] at hba
    simp only [vSb, List.map_cons, List.map_nil] at hba
    simp only [go_sem, famC, knownA, cM, cR, vss, h3, hg3, hB2, n2, s2, hget]
    refine CallU.ownF [5696] [.pb 0 0, vi k, .ag (cR r), .sl 0 2 [.ag [vi s.1, vs 0 s.2], .ag [vi t.1, vs 0 t.2]]] (i := 0) (is := []) (bx0 := [famC m N 2 3 k G]) hba (by simp only [go_sem]) (by simp only [go_sem, cR]) (by simp only [go_sem]) (by simp only [go_sem, famC, knownA, cM, vss]) [2, 3] (by simp only [go_sem, famC, knownA, cM, cR, vss]) (by simp only [go_sem, famC, knownA, cM, cR, vss]) (by simp only [go_sem, cR]) (by simp only [go_sem, famC, knownA, cM, vss]) ?_
    rintro x b ⟨rfl, rfl⟩
    cases hb : (addB valB insV G k (appB m.places.length r [s, t])).2
    ·rw [hb, if_neg (by simp)] at hE
     rw [hb] at hlim
     simp only [go_sem, famC, knownA, cM, vss, hlim, hwj, hks]
     refine roundK.turn (j + 1, (addB valB insV G k (appB m.places.length r [s, t])).1) ⟨by show j + 1 <= _; omega, hGn, hGns, hE⟩ (by show L.length - (j + 1) < L.length - j; omega) (Turn.mv 5762 2 (by omega) (by omega) (by omega) (Turn.mv 5763 3 (by omega) (by omega) (by omega) (Turn.le ?_)))
     have hrk : Rk 2 n ++ [[AV.sc (.int .i64 s.1), AV.sl 0 1 (s.2.map vi)]] ++ Rk 2 (j + 1) = Rk 2 n ++ [[AV.sc (.int .i64 s.1), AV.sl 0 1 (s.2.map vi)]] ++ Rk 2 j ++ [List.replicate 2 .any] := by rw [Rk_succ, <- List.append_assoc]
     simp only [go_sem, hrk, hm1, hm2, hmv1, hmv2]
     exact leB_app (leB_self _) ⟨⟨leV_any _, leV_any _, trivial⟩, trivial⟩
    ·rw [hb, if_pos rfl] at hE
     rw [hb] at hlim
     rw [<- hE]
     simp only [go_sem, famC, knownA, cM, vss, hlim]
     exact ⟨1, rfl, by rw [hb]; rfl⟩
   ·obtain rfl : j = L.length := by omega
    rw [List.drop_length] at hE
    simp only [go_sem, famC, knownA, cM, cR, vss, h3, hwi]
    refine roundK.intro (i + 1, n + 1 + L.length, G) ⟨by show i + 1 <= _; omega, hG, hGs, hREST ▸ hE⟩ (by show S.length - (i + 1) < S.length - i; omega) ?_
    simp only [go_sem, <- Rk_mid]
    rw [List.append_assoc]
    trace_state
    exact leB_app (leB_self _) ⟨⟨leV_any _, leV_any _, trivial⟩, leB_self _⟩
  ·obtain rfl : i = S.length := by omega
   rw [List.drop_length] at hE
   simp only [go_sem, famC, knownA, cM, cR, vss, h2, hwa]
   refine roundK.intro (a + 1, n, G) ⟨by show a + 1 <= _; omega, hG, hGs, hE⟩ (by show k - (a + 1) < k - a; omega) ?_
   simp only [go_sem]
 ·have hq : ¬ (a : Int) + 1 < ((k - 1 : Nat) : Int) := by omega
  have ha2 : (List.range (k - 2)).drop a = [] := List.drop_of_length_le (by rw [List.length_range]; omega)
  rw [ha2] at hE
  have hE' : R = (G, false) := hE.symm
  simp only [go_sem, famC, knownA, cM, cR, vss, hwk, hq]
  rw [hE']
  first | exact ⟨0, rfl, rfl, rfl⟩ | exact ⟨0, rfl, rfl⟩
end Go.AM
namespace Go.AM
open Go.RowKit
section
variable {G : Nat -> Status} {w : World} {T : Nat}
def frzRow1 (T : Nat) : AV -> AV
 | .sl t es xs => if t = T then .sl 0 es xs else .sl t es xs
 | x => x
def frzLeaf1 (T : Nat) : AV -> AV
 | .sl t es xs => if t = T then .sl 0 es xs else .sl t es xs
 | .pe t es xs i o => if t = T then .pe 0 es xs i o else .pe t es xs i o
 | .so t xs => if t = T then .any else .so t (xs.map (frzRow1 T))
 | .po t xs i => if t = T then .any else .po t (xs.map (frzRow1 T)) i
 | .mp t P k e D => if t = T then .any else .mp t P k e D
 | .tl _ _ _ _ => .any
 | x => x
def frzG1 (T : Nat) (G : Nat -> Status) (k : Nat) : Status := if G k = .tag T then .stable else G k
theorem frzG1_stable {k : Nat} (h : Stable G k) : Stable (frzG1 T G) k := by unfold Stable at *; simp [frzG1, h]
theorem frzG1_tag {k t : Nat} (h : G k = .tag t) (h1 : t ≠ T) : frzG1 T G k = .tag t := by simp [frzG1, h, h1]
theorem frzG1_box {k i : Nat} (h : frzG1 T G k = .box i) : G k = .box i := by
 unfold frzG1 at h
 split at h
 ·cases h
 ·exact h
theorem Good.frz1 (hg : Good G w) : Good (frzG1 T G) w := by
 refine ⟨fun b hb => hg.lt b fun hj => hb (by unfold frzG1; rw [hj]; simp), fun b b' t h h' => ?_, fun b b' i h h' => hg.boxes b b' i (frzG1_box h) (frzG1_box h')⟩
 unfold frzG1 at h h'
 split at h
 ·cases h
 ·split at h'
  ·cases h'
  ·exact hg.tags b b' t h h'
theorem frz1_row {r : Nat} {x : AV} {u : Value} (hT : 2 <= T) (hx : x.rowLike = true) (hr : LRel G w r x u) : (frzRow1 T x).rowLike = true /\ LRel (frzG1 T G) w r (frzRow1 T x) u := by
 cases hr with
 | froz hr =>
  have hr' := hr.mono (S' := Stable (frzG1 T G)) (w' := w) (fun b => frzG1_stable) (fun _ _ => rfl)
  cases x <;> first | exact ⟨hx, .froz hr'⟩ | skip
  rename_i t es xs
  have ht : t < 2 := by cases hr <;> assumption
  simp only [frzRow1]
  rw [if_neg (by omega)]
  exact ⟨rfl, .froz hr'⟩
 | own t es xs _ e vals h1 hrt h2 h3 h4 h0 h5 =>
  have h5' := h5.mono fun x y _ hr => hr.mono (S' := Stable (frzG1 T G)) (w' := w) (fun b => frzG1_stable) (fun _ _ => rfl)
  simp only [frzRow1]
  split
  ·rename_i hta
   subst hta
   exact ⟨rfl, .froz (own_froz (_G := G) (_t := t) h2 (fun b hb => by unfold Stable frzG1; rw [h3 b hb]; simp) h4 h0 h5')⟩
  ·rename_i h6
   exact ⟨rfl, .own t es xs _ e vals h1 hrt h2 (fun k hk => frzG1_tag (h3 k hk) h6) h4 h0 h5'⟩
theorem frz1_so {t : Nat} {xs : List AV} {v : Value} (hT : 2 <= T) (h1 : t ≠ T) (h : VRel G w (.so t xs) v) : VRel (frzG1 T G) w (.so t (xs.map (frzRow1 T))) v :=
 h.so_map h.so_two (fun _ _ hx hr => frz1_row hT hx hr) (fun _k hk => ⟨frzG1_tag hk h1, rfl⟩)
theorem frz1_sl {t es : Nat} {xs : List AV} {v : Value} (hT : 2 <= T) (h : VRel G w (.sl t es xs) v) : VRel (frzG1 T G) w (frzLeaf1 T (.sl t es xs)) v := by
 have hF : ∀ {x v}, FRel (Stable G) w x v -> FRel (Stable (frzG1 T G)) w x v := fun hr => hr.mono (fun b => frzG1_stable) (fun _ _ => rfl)
 simp only [frzLeaf1]
 cases h with
 | froz h =>
  have : t < 2 := by cases h <;> assumption
  rw [if_neg (by omega)]
  exact .froz (hF h)
 | own _ _ _ _ e vals h1 h2 h3 h4 h0 h5 =>
  have h5' := h5.mono fun x y _ hr => hF hr
  split
  ·rename_i hta; subst hta
   exact .froz (own_froz (_G := G) (_t := t) h2 (fun b hb => by unfold Stable frzG1; rw [h3 b hb]; simp) h4 h0 h5')
  ·rename_i h6
   exact .own t es xs _ e vals h1 h2 (fun k hk => frzG1_tag (h3 k hk) h6) h4 h0 h5'
theorem VRel.frz1 {x : AV} {v : Value} (hT : 2 <= T) (h : VRel G w x v) : VRel (frzG1 T G) w (x.mapTop (frzLeaf1 T)) v := by
 have hF : ∀ {x v}, FRel (Stable G) w x v -> FRel (Stable (frzG1 T G)) w x v := fun hr => hr.mono (fun b => frzG1_stable) (fun _ _ => rfl)
 refine h.mapTop fun x v hx h => ?_
 cases x with
 | sl t es xs => exact frz1_sl hT h
 | pe t es xs i o =>
  obtain ⟨b', off, c, h1, h2, rfl⟩ := h.pe_inv
  have := frz1_sl (T := T) hT h1
  simp only [frzLeaf1] at this ⊢
  split at this
  ·rename_i hp; rw [if_pos hp]; exact .pe _ _ _ _ _ _ _ _ this h2
  ·rename_i hp; rw [if_neg hp]; exact .pe _ _ _ _ _ _ _ _ this h2
 | so t xs =>
  simp only [frzLeaf1]
  split
  ·exact .froz (.any _)
  ·rename_i h1; exact frz1_so hT h1 h
 | po t xs i =>
  obtain ⟨b', off, c, h3, h4, rfl⟩ := h.po_inv
  simp only [frzLeaf1]
  split
  ·exact .froz (.any _)
  ·rename_i h1; exact (frz1_so hT h1 h3).po_of (by simp) h4
 | pb i o => obtain ⟨k, hk, rfl⟩ := h.pb_inv; exact .pb _ _ _ (by simp [frzG1, hk])
 | ag cs => simp [AV.leafy] at hx
 | tup cs => simp [AV.leafy] at hx
 | any => exact .froz (.any _)
 | nil => rw [h.nil_inv]; exact .froz .nil
 | ub => obtain ⟨b, rfl⟩ := h.ub_inv; exact .froz (.ub b)
 | sc u => rw [h.sc_inv]; exact .froz (.sc _)
 | fn g caps => cases h with | froz h => exact .froz (hF h)
 | mp t P k e D =>
  simp only [frzLeaf1]; split
  ·exact .froz (.any _)
  ·rename_i h1; exact h.mpMono (fun k hk => frzG1_tag hk h1) (fun _ _ _ _ _ => rfl)
 | cl g caps => exact h.clMono (fun b => frzG1_stable) (fun _ _ => rfl) (fun b i hb => by simp [frzG1, hb])
 | tl t es xs i => exact .froz (.any _)
 | fp cs o => cases h with | froz h => exact .froz (hF h)
theorem SRel.frz1 {G0 w0 σ a'} (h : SRel G0 w0 σ G a' w) (hT : 2 <= T) : SRel G0 w0 (σ.map (frzLeaf1 T)) (frzG1 T G) a' w :=
 { h with
  good := h.good.frz1
  slots := fun s => by
   have : (σ.map (frzLeaf1 T)).get s = (σ.get s).mapTop (frzLeaf1 T) := lookT_map rfl σ.tmps s
   rw [this]; exact (h.slots s).frz1 hT
  boxes := ⟨fun i vs hv => by have := h.boxes.low i vs hv; simpa [St.map, mapB_eq] using this, fun i cs hi => by
   simp only [St.map, mapB_eq, List.getElem?_map] at hi
   cases hc : σ.boxes[i]? with
   | none => simp [hc] at hi
   | some cs' =>
    simp [hc] at hi; subst hi
    rw [mapTops_eq]
    exact (h.boxes.cell i cs' hc).map (fun x v hr => hr.frz1 hT) (fun k hk => ⟨by simp [frzG1, hk], rfl⟩) fun h0 k hk => h0 k (frzG1_box hk)⟩
  blt := fun k i hk => by
   have := h.blt k i (frzG1_box hk)
   simpa [St.map, mapB_eq] using this
  size := h.size
  stat := fun k hk hnt => by
   have := h.stat k hk hnt
   cases hs : G k with
   | tag t => exact absurd (by rw [<- this]; exact hs) (hnt t)
   | _ => unfold frzG1; rw [if_neg (by rw [hs]; simp)]; exact this }
end
theorem Turn.frz1 {σ τ : St} (T : Nat) (hT : 2 <= T) (h : Turn (σ.map (frzLeaf1 T)) τ) : Turn σ τ := fun _ _ _ _ _ hs => h _ _ _ _ _ (hs.frz1 hT)
attribute [go_sem] frzLeaf1
end Go.AM
namespace Go.AM
open Go Go.Proofs Go.RowKit
set_option maxRecDepth 100000
set_option maxHeartbeats 8000000
theorem con_bgrow (m : MD) (r : RD) (N k : Nat) (F : FamB (Int × List Int) CV) (hp : 1 <= m.places.length /\ m.places.length <= 1000) (hr : BrR m.places.length r)
  (hF : FamOk m.places.length F) (hk : k < N) (hk1 : 1 <= k) (hN : N <= 7) :
  ConX Tryz.prog 57 [.pb 0 0, vi k, vRule r] [famC m N 2 3 k F]
   fun x b => ∃ e, x = vi e /\ (e == 1) = (stG m r N k F).2 /\ b = [famC m N 2 3 k (stG m r N k F).1] := by
 have := prem_le r
 by_cases h : (premB r).length = 2
 ·exact con_bgrow2 m r N k F hp hr hF hk hk1 hN h
 ·exact con_bgrow1 m r N k F hp hr hF hk hk1 hN (by omega)
theorem famOk_adds {np k : Nat} (hnp : np <= 1000) : ∀ (l : List (ResB (Int × List Int))) {F : FamB (Int × List Int) CV}, FamOk np F -> (∀ x ∈ l, ∀ s, x = .ok s -> SmB np s) -> FamOk np (addsB valB insV F k l).1
 | [], _, h, _ => h
 | x :: l, F, h, hx => by
  have h1 := famOk_add (k := k) hnp h (hx x (by simp))
  rw [adds_cons]
  split
  ·exact h1
  ·exact famOk_adds hnp l h1 fun y hy => hx y (by simp [hy])
theorem tup_sm {np k : Nat} {r : RD} {sz : Nat -> List (Int × List Int)} (hr : BrR np r) : ∀ x ∈ tupB sz k (ruBra np r), ∀ s, x = .ok s -> SmB np s := by
 intro x hx s hs
 unfold tupB at hx
 split at hx
 ·split at hx
  ·rw [List.mem_singleton] at hx; rw [hx] at hs; exact app_sm hr hs
  ·cases hx
 ·split at hx
  ·obtain ⟨u, _, rfl⟩ := List.mem_map.1 hx; exact app_sm hr hs
  ·obtain ⟨a, _, hx⟩ := List.mem_flatMap.1 hx
   obtain ⟨u, _, hx⟩ := List.mem_flatMap.1 hx
   obtain ⟨t, _, rfl⟩ := List.mem_map.1 hx
   exact app_sm hr hs
theorem famOk_st {m : MD} {r : RD} {N k : Nat} {F : FamB (Int × List Int) CV} (hp : m.places.length <= 1000) (hr : BrR m.places.length r) (h : FamOk m.places.length F) : FamOk m.places.length (stG m r N k F).1 :=
 famOk_adds hp _ h (tup_sm hr)
theorem none_st {m : MD} {r : RD} {N k : Nat} {F : FamB (Int × List Int) CV} (h : ∀ j, k < j -> F.sizes j = []) : ∀ j, k < j -> (stG m r N k F).1.sizes j = [] := fun j hj => by
 have := (adds_more (val := valB) (ins_mem (cmp := cmpV)) k (tupB F.sizes k (ruBra m.places.length r)) F).same j (by omega)
 exact this.trans (h j hj)
def famM (m : MD) (k : Nat) : FamB (Int × List Int) CV × Bool := allB valB insV (m.rules.map (ruBra m.places.length)) k
theorem famM_succ (m : MD) (k : Nat) (h : (famM m k).2 = false) : famM m (k + 1) = stageB valB insV (famM m k).1 (k + 1) (m.rules.map (ruBra m.places.length)) := by
 have e : famM m (k + 1) = if (famM m k).2 = true then famM m k else stageB valB insV (famM m k).1 (k + 1) (m.rules.map (ruBra m.places.length)) := rfl
 rw [e, h]; rfl
theorem stage_cons (m : MD) (N k : Nat) (F : FamB (Int × List Int) CV) (r : RD) (l : List RD) : stageB valB insV F k ((r :: l).map (ruBra m.places.length)) = if (stG m r N k F).2 = true then stG m r N k F else stageB valB insV (stG m r N k F).1 k (l.map (ruBra m.places.length)) := rfl
def nilRow (r : Nat) (x y : AV) : Prop := x.rowLike = true /\ (y = x \/ (x = .nil /\ ((∃ es, y = .sl 0 es []) \/ ∃ t' es, 2 <= t' /\ root t' = r /\ y = .sl t' es [])))
theorem so_rows {t : Nat} {xs ys : List AV} (hl : xs.length = ys.length) (h : ∀ (j : Nat) x y, xs[j]? = some x -> ys[j]? = some y -> nilRow (root t) x y) : leV (.so t xs) (.so t ys) := leV_sem fun G w v hv => by
 cases hv with
 | froz h => cases h
 | so _ _ _ e vals h1 h2 h3 h4 h0 h5 =>
  refine .so t ys v e vals h1 (by rw [<- hl]; exact h2) h3 (fun y hy => ?_) h0 ⟨by rw [<- hl]; exact h5.1, fun j y u hj hu => ?_⟩
  ·obtain ⟨j, hj⟩ := List.getElem?_of_mem hy
   have hjl : j < xs.length := by rw [hl]; exact (List.getElem?_eq_some_iff.1 hj).1
   obtain ⟨a, b⟩ := h j _ y (List.getElem?_eq_getElem hjl) hj
   rcases b with rfl | ⟨_, ⟨es, rfl⟩ | ⟨t', es, _, _, rfl⟩⟩
   ·exact a
   ·rfl
   ·rfl
  ·have hjl : j < xs.length := by rw [hl]; exact (List.getElem?_eq_some_iff.1 hj).1
   have hr := h5.2 j _ u (List.getElem?_eq_getElem hjl) hu
   obtain ⟨_, b⟩ := h j _ y (List.getElem?_eq_getElem hjl) hj
   rcases b with rfl | ⟨hx, b⟩
   ·exact hr
   ·rw [hx] at hr
    have hu0 : u = .slice none 0 0 := by
     cases hr with
     | froz hr => cases hr; rfl
    subst hu0
    rcases b with ⟨es, rfl⟩ | ⟨t', es, k1, k2, rfl⟩
    ·exact .froz (.slNil 0 es none 0 (by omega) (by omega) (fun _ => rfl))
    ·exact .own t' es [] _ e [] k1 k2 (World.ownsRow_nil w 0 e es) (fun b hb => by simp [Value.ownBlock] at hb) (fun x hx => by cases hx) (fun x hx => by cases hx) (PW.nil _)
theorem Turn.trans {σ τ ρ : St} (h : Turn σ τ) (g : Turn τ ρ) : Turn σ ρ := fun _ _ _ _ _ hs => let ⟨_, h1⟩ := h _ _ _ _ _ hs; g _ _ _ _ _ h1
def emptyF : FamB (Int × List Int) CV := ⟨fun _ => [], []⟩
theorem rows_begin (N : Nat) : leV (.so 2 (List.replicate N .nil)) (.so 2 (rowsF N 2 1 emptyF)) :=
 so_rows (by simp [rowsF_len]) fun j x y hx hy => by
  have hj : j < N := by have := (List.getElem?_eq_some_iff.1 hx).1; simpa using this
  rw [rowsF_at hj] at hy
  simp [hj] at hx
  subst hx
  simp only [Option.some.injEq] at hy
  subst hy
  refine ⟨rfl, ?_⟩
  unfold rowA emptyF
  by_cases h1 : j < 1
  ·rw [if_pos h1]; exact .inr ⟨rfl, .inl ⟨2, rfl⟩⟩
  ·rw [if_neg h1]
   by_cases h2 : j = 1
   ·rw [if_pos h2]; exact .inr ⟨rfl, .inr ⟨subT 2 1, 2, by have := sub_big 2 1; omega, root_sub 2 1, rfl⟩⟩
   ·rw [if_neg h2]; exact .inl rfl
theorem rows_next {N k : Nat} {F : FamB (Int × List Int) CV} (hn : F.sizes (k + 1) = []) : leV (.so 2 ((rowsF N 2 k F).map (frzRow1 (subT 2 k)))) (.so 2 (rowsF N 2 (k + 1) F)) :=
 so_rows (by simp [rowsF_len]) fun j x y hx hy => by
  have hj : j < N := by have := (List.getElem?_eq_some_iff.1 hx).1; simpa [rowsF_len] using this
  rw [rowsF_at hj] at hy
  rw [List.getElem?_map, rowsF_at hj] at hx
  simp only [Option.map_some, Option.some.injEq] at hx hy
  subst hx; subst hy
  have hb := sub_big 2 k
  unfold rowA
  by_cases h1 : j < k
  ·rw [if_pos h1, if_pos (by omega)]
   have hz : ¬ (0 = subT 2 k) := by omega
   simp only [frzRow1, hz, if_false]
   exact ⟨by first | rfl | trivial, .inl rfl⟩
  ·rw [if_neg h1]
   by_cases h2 : j = k
   ·subst h2
    rw [if_pos rfl, if_pos (by omega)]
    simp only [frzRow1, if_true]
    exact ⟨by first | rfl | trivial, .inl rfl⟩
   ·rw [if_neg h2]
    refine ⟨rfl, ?_⟩
    simp only [frzRow1]
    rw [if_neg (by omega)]
    by_cases h3 : j = k + 1
    ·subst h3
     rw [if_pos rfl, hn]
     exact .inr ⟨by first | rfl | trivial, .inr ⟨subT 2 (k + 1), 2, by have := sub_big 2 (k + 1); omega, root_sub 2 (k + 1), by first | rfl | trivial⟩⟩
    ·rw [if_neg h3]; exact .inl rfl
theorem famM_lim (m : MD) : ∀ (d k : Nat), (famM m k).2 = true -> (famM m (k + d)).2 = true
 | 0, _, h => h
 | d + 1, k, h => by
  have h1 := famM_lim m d k h
  show (famM m (k + d + 1)).2 = true
  have e : famM m (k + d + 1) = if (famM m (k + d)).2 = true then famM m (k + d) else stageB valB insV (famM m (k + d)).1 (k + d + 1) (m.rules.map (ruBra m.places.length)) := rfl
  rw [e, if_pos h1]; exact h1
theorem famOk_empty (np : Nat) : FamOk np emptyF := ⟨List.Pairwise.nil, by show 0 <= 256; omega, fun c hc => (by cases hc), fun _ => Nat.le_refl _, fun _ s hs => (by cases hs)⟩
def allX (m : MD) (n : Int) : Except Int (List CV) := if kindF m ≠ 0 then .error (kindF m) else if n < 0 \/ 6 < n then .error 2 else if (famM m n.toNat).2 = true then .error 1 else .ok (famM m n.toNat).1.known
def allA : Except Int (List CV) -> AV
 | .error e => .tup [.nil, vi e]
 | .ok l => .tup [.sl 0 2 (l.map vV), vi 0]
theorem con_bAll (m : MD) (n : Int) (hm : kindF m = 0 -> BraM m) (hl : LenM m) : Con Tryz.prog 24 [vM m, vi n] [] fun x _ => x = allA (allX m n) := by
 have hck := con_bcheck m hl
 obtain ⟨R, hR⟩ : ∃ R, R = allX m n := ⟨_, rfl⟩
 have hRe := hR
 rw [<- hR]
 unfold allX at hRe
 refine Con.frozL ?_
 refine Con.intro Tryz.func24 rfl Tryz.ntmps24 Tryz.results24 (by kernel_rfl) (by simp) 0 (by simp) ?_
 simp only [go_sem, vM, cM, vss]
 refine CallU.free hck (by simp only [go_sem]) (by simp only [go_sem, vM, cM, vss]) ?_
 rintro z bx rfl
 by_cases h1 : kindF m = 0
 case neg =>
  have h1' : (kindF m != 0) = true := bne_iff_ne.2 h1
  rw [if_pos h1] at hRe
  simp only [go_sem, h1', hRe, allA]
  exact leV_refl _
 have h1' : (kindF m != 0) = false := by rw [h1]; rfl
 rw [if_neg (fun h => h h1)] at hRe
 by_cases h2 : n < 0
 ·rw [if_pos (.inl h2)] at hRe
  simp only [go_sem, h1, h2, hRe, allA]
  exact leV_refl _
 by_cases h3 : 6 < n
 ·rw [if_pos (.inr h3)] at hRe
  simp only [go_sem, h1, h2, h3, hRe, allA]
  exact leV_refl _
 rw [if_neg (by omega)] at hRe
 obtain ⟨N, rfl⟩ : ∃ N : Nat, n = N := ⟨n.toNat, by omega⟩
 have hN6 : N <= 6 := by omega
 rw [show ((N : Nat) : Int).toNat = N from rfl] at hRe
 have hbm := hm h1
 have hbf := hbm.few
 have hwN : IntKind.i64.wrap ((N : Int) + 1) = ((N + 1 : Nat) : Int) := by rw [wrap_in (by omega) (by omega)]; omega
 simp only [go_sem, h1, h2, h3]
 refine DrawK.walk 5 mixed (by kernel_rfl) ?_
 simp only [go_sem, hwN]
 refine ⟨by omega, by omega, by omega, by omega, ?_⟩
 have htoN : ((N : Int) + 1).toNat = N + 1 := by omega
 simp only [htoN]
 refine LoopK.turn (fun p : Nat × Nat => ⟨50, [(1, vi N), (2, .pb 0 0), (7, .pb 1 0), (8, vi ((p.1 : Int) + 1))], cM m :: famC m (N + 1) 2 3 (p.1 + 1) (famM m p.1).1 :: Rk 14 p.2⟩)
  (fun p => N - p.1) (fun p => p.1 <= N /\ (famM m p.1).2 = false /\ FamOk m.places.length (famM m p.1).1 /\ ∀ j, p.1 < j -> (famM m p.1).1.sizes j = []) (0, 0) ⟨by show 0 <= N; omega, rfl, famOk_empty _, fun _ _ => rfl⟩ (Turn.mv 1664 2 (by omega) (by omega) (by omega) (Turn.trans (Turn.le (τ := ⟨50, [(1, vi N), (2, .pb 0 0), (7, .pb 1 0), (8, vi ((0 : Nat) + 1))], [cM m, cM m ++ [.so 2 (List.replicate (N + 1) .nil), .sl 3 2 []]]⟩) ?_) (Turn.le ?_))) ?_
 ·have hm1 : mvT 1664 2 1664 = 2 := rfl
  simp only [go_sem, cM, vss, hm1]
  exact .inr (.inr (.inr (.inl ⟨2, _, _, by omega, rfl, rfl, ⟨by simp, fun j x y hx hy => by
   rw [hx] at hy; cases hy
   have hj : j < N + 1 := by have := (List.getElem?_eq_some_iff.1 hx).1; simpa using this
   simp [hj] at hx; subst hx
   exact ⟨rfl, .inl rfl⟩⟩⟩)))
 ·have hb := rows_begin (N + 1)
  have e0 : (famM m 0).1 = emptyF := rfl
  simp only [go_sem, cM, vss, famC, knownA, e0]
  exact ⟨⟨hb, leV_refl _⟩, leB_self []⟩
 rintro ⟨q, nb⟩ ⟨hq, hf, hFo, hno⟩
 simp only at hq hf hFo hno
 by_cases h : q < N
 ·have hql : (q : Int) + 1 <= (N : Int) := by omega
  have hwq : IntKind.i64.wrap ((q : Int) + 1 + 1) = ((q + 1 : Nat) : Int) + 1 := by rw [wrap_in (by omega) (by omega)]; omega
  have hsu := famM_succ m q hf
  simp only [go_sem, cM, vss, famC, knownA, hql, List.length_map]
  refine LoopK.intro (fun p : Nat × FamB (Int × List Int) CV => ⟨50, [(1, vi N), (2, .pb 0 0), (7, .pb 1 0), (8, vi ((q : Int) + 1)), (34, .sl 0 14 (m.rules.map vRule)), (35, vi m.rules.length), (36, vi p.1)], cM m :: famC m (N + 1) 2 3 (q + 1) p.2 :: Rk 14 (nb + p.1)⟩)
   (fun p => m.rules.length - p.1) (fun p => p.1 <= m.rules.length /\ FamOk m.places.length p.2 /\ (∀ j, q + 1 < j -> p.2.sizes j = []) /\ stageB valB insV p.2 (q + 1) ((m.rules.drop p.1).map (ruBra m.places.length)) = famM m (q + 1)) (0, (famM m q).1) ⟨by show 0 <= _; omega, hFo, fun j hj => hno j (by omega), by rw [List.drop_zero, hsu]⟩ ?_ ?_
  ·simp only [go_sem, famC, knownA, cM, vss]
   all_goals exact leB_self _
  rintro ⟨i, G⟩ ⟨hi, hG, hGn, hE⟩
  simp only at hi hG hGn hE
  by_cases h4 : i < m.rules.length
  ·have hgr := getRule h4
   have hw : IntKind.i64.wrap (i + 1) = i + 1 := wrap_in (by omega) (by omega)
   have hB := Rk_len 14 (nb + i)
   have n0 := fun L : List (List AV) => app_at0 (L := L) hB
   have s0 := fun (L : List (List AV)) z => app_set0 (L := L) (z := z) hB
   have hbr := hbm.rules _ (mem_bang h4)
   have hgw := con_bgrow m m.rules[i]! (N + 1) (q + 1) G hbm.places hbr hG (by omega) (by omega) (by omega)
   have hGo := famOk_st (N := N + 1) (k := q + 1) hbm.places.2 hbr hG
   have hGn' := none_st (m := m) (r := m.rules[i]!) (N := N + 1) hGn
   have ed : m.rules.drop i = m.rules[i]! :: m.rules.drop (i + 1) := by rw [<- List.getElem_cons_drop h4, <- getElem!_pos m.rules i h4]
   rw [ed, stage_cons m (N + 1)] at hE
   generalize m.rules[i]! = r at hgr hbr hgw hGo hGn' hE
   have hgw : ConX Tryz.prog 57 [.pb 0 0, vi ((q : Int) + 1), vRule r] [famC m (N + 1) 2 3 (q + 1) G] fun x b => ∃ e, x = vi e /\ (e == 1) = (stG m r (N + 1) (q + 1) G).2 /\ b = [famC m (N + 1) 2 3 (q + 1) (stG m r (N + 1) (q + 1) G).1] := hgw
   simp only [go_sem, famC, knownA, cM, vss, h4, hgr, hB, n0, s0]
   refine CallU.own (i := 1) (is := []) (bx0 := [famC m (N + 1) 2 3 (q + 1) G]) hgw (by simp only [go_sem]) (by simp only [go_sem, famC, knownA, cM, vss]) [2, 3] (by simp only [go_sem, famC, knownA, cM, vss]) (by simp only [go_sem, famC, knownA, cM, vss]) (by simp only [go_sem]) (by simp only [go_sem, famC, knownA, cM, vss]) ?_
   rintro x b ⟨e, rfl, hlim, rfl⟩
   have hks := fun q => (mapB_Rk rfl 14 q : mapB (killS [2, 3]) (Rk 14 q) = Rk 14 q)
   cases hb : (stG m r (N + 1) (q + 1) G).2
   ·rw [hb, if_neg (by simp)] at hE
    rw [hb] at hlim
    simp only [go_sem, famC, knownA, cM, vss, hlim, hw, hks]
    refine roundK.turn (i + 1, (stG m r (N + 1) (q + 1) G).1) ⟨by show i + 1 <= _; omega, hGo, hGn', hE⟩ (by show m.rules.length - (i + 1) < m.rules.length - i; omega) (Turn.mv 2818 2 (by omega) (by omega) (by omega) (Turn.mv 2819 3 (by omega) (by omega) (by omega) (Turn.le ?_)))
    have hm1 : mvT 2818 2 2818 = 2 := rfl
    have hm2 : mvT 2819 3 2819 = 3 := rfl
    have hmv1 := fun q => (mapB_Rk rfl 14 q : mapB (mvLeaf 2818 2) (Rk 14 q) = Rk 14 q)
    have hmv2 := fun q => (mapB_Rk rfl 14 q : mapB (mvLeaf 2819 3) (Rk 14 q) = Rk 14 q)
    simp only [go_sem, hm1, hm2, hmv1, hmv2, show nb + (i + 1) = nb + i + 1 by omega, Rk_succ]
    exact leB_RkA ⟨leC_any _ 14 rfl, trivial⟩
   ·rw [hb, if_pos rfl] at hE
    rw [hb] at hlim
    have hl2 : (famM m N).2 = true := by
     have h5 : (famM m (q + 1)).2 = true := by rw [<- hE]; exact hb
     have := famM_lim m (N - (q + 1)) (q + 1) h5
     rwa [show q + 1 + (N - (q + 1)) = N by omega] at this
    rw [if_pos hl2] at hRe
    simp only [go_sem, famC, knownA, cM, vss, hlim, hRe, allA]
    exact leV_refl _
  ·obtain rfl : i = m.rules.length := by omega
   rw [List.drop_length, List.map_nil] at hE
   have hE' : famM m (q + 1) = (G, false) := hE.symm
   simp only [go_sem, famC, knownA, cM, vss, h4, hwq]
   refine roundK.turn (q + 1, nb + m.rules.length) ⟨by show q + 1 <= N; omega, by rw [hE'], by rw [hE']; exact hG, by rw [hE']; exact hGn⟩ (by show N - (q + 1) < N - q; omega) (Turn.frz1 (subT 2 (q + 1)) (by have := sub_big 2 (q + 1); omega) (Turn.le ?_))
   rw [hE']
   have hnx := rows_next (N := N + 1) (k := q + 1) (F := G) (hGn _ (by omega))
   have hkf := fun j => (mapB_Rk rfl 14 j : mapB (frzLeaf1 (subT 2 (q + 1))) (Rk 14 j) = Rk 14 j)
   simp only [go_sem, hkf]
   exact hnx
 ·obtain rfl : q = N := by omega
  have hql : ¬ (q : Int) + 1 <= (q : Int) := by omega
  rw [if_neg (by rw [hf]; simp)] at hRe
  simp only [go_sem, cM, vss, famC, knownA, hql, hRe, allA]
  exact leV_refl _
theorem checkF_zero {m : MD} (h : checkF m = 0) : betweenB m.kind 1 6 = true /\ sizedB m = true /\ rankedB m = true /\ namesB (namesOf m) = true /\ (∀ r ∈ m.rules, rightR m r = true) /\ beginsF m = true := by
 unfold checkF at h
 cases h1 : betweenB m.kind 1 6 <;> simp only [h1, if_true, Bool.true_eq_false, if_false] at h
 ·omega
 cases h2 : sizedB m <;> simp only [h2, if_true, Bool.true_eq_false, if_false] at h
 ·omega
 cases h3 : rankedB m <;> simp only [h3, if_true, Bool.true_eq_false, if_false] at h
 ·omega
 cases h4 : namesB (namesOf m) <;> simp only [h4, if_true, Bool.true_eq_false, if_false] at h
 ·omega
 cases h5 : m.rules.any fun r => !rightR m r <;> simp only [h5, if_true, Bool.false_eq_true, if_false] at h
 ·cases h6 : beginsF m <;> simp only [h6, if_true, Bool.true_eq_false, if_false] at h
  ·omega
  ·refine ⟨rfl, rfl, rfl, rfl, fun r hr => ?_, rfl⟩
   have := List.any_eq_false.1 h5 r hr
   simpa using this
 ·omega
theorem small_mem {l : List Int} (h : smallB l = true) {p : Nat} (hp : p < l.length) : 0 <= l[p]! /\ l[p]! <= 16 := by
 unfold smallB at h
 rw [List.all_eq_true] at h
 have := h l[p]! (by rw [getElem!_pos l p hp]; exact List.getElem_mem _)
 unfold betweenB at this
 simp only [Bool.and_eq_true, decide_eq_true_eq] at this
 exact this
theorem right_six {m : MD} {r : RD} (hk : m.kind = 6) (h : rightR m r = true) : BrR m.places.length r /\ ∀ p, p < m.places.length -> r.need[p]! <= 16 /\ r.give[p]! <= 16 := by
 unfold rightR fitsR at h
 rw [if_neg (by omega), if_neg (by omega), if_neg (by omega), if_neg (by omega)] at h
 simp only [Bool.and_eq_true] at h
 have h1 := h.1.2
 unfold branchB changesB at h1
 simp only [Bool.and_eq_true, decide_eq_true_eq] at h1
 obtain ⟨⟨⟨⟨⟨a, b⟩, c⟩, d⟩, _⟩, _⟩ := h1
 have hn := fun p (hp : p < m.places.length) => small_mem c (p := p) (by omega)
 have hg := fun p (hp : p < m.places.length) => small_mem d (p := p) (by omega)
 exact ⟨⟨a, b, fun p hp => by have := hn p hp; omega, fun p hp => by have := hg p hp; omega⟩, fun p hp => ⟨(hn p hp).2, (hg p hp).2⟩⟩
theorem kind_six {m : MD} (h : kindF m = 0) : checkF m = 0 /\ m.kind = 6 := by
 unfold kindF at h
 by_cases h1 : checkF m = 0
 ·rw [if_neg (fun h => h h1)] at h
  refine ⟨h1, ?_⟩
  by_cases h2 : m.kind = 6
  ·exact h2
  ·rw [if_pos h2] at h; omega
 ·rw [if_pos h1] at h; exact absurd h h1
theorem bra_of {m : MD} (h : kindF m = 0) : BraM m := by
 obtain ⟨hc, hk⟩ := kind_six h
 obtain ⟨_, hs, _, _, hr, _⟩ := checkF_zero hc
 unfold sizedB betweenB at hs
 simp only [Bool.and_eq_true, decide_eq_true_eq] at hs
 rw [hk] at hs
 have e : lim 6 0 = 1 /\ lim 6 1 = 6 := by decide
 obtain ⟨⟨⟨⟨⟨h1, h2⟩, h3⟩, h4⟩, h5⟩, h6⟩ := hs
 exact ⟨by omega, by omega, fun r hr' => (right_six hk (hr r hr')).1⟩
def aR1 : RD := { name := ⟨#[111, 110, 101]⟩, src := -1, dst := 0, need := [0], give := [2], move := [], second := -1 }
def aR2 : RD := { name := ⟨#[116, 119, 111]⟩, src := 0, dst := 0, need := [0], give := [0], move := [], second := 0 }
def aM : MD := { kind := 6, states := [⟨#[97]⟩], places := [⟨#[120]⟩], rules := [aR1, aR2], start := zeroV }
def aD : CV := .mk 1 [.mk 0 [], .mk 0 []]
theorem aM_len : LenM aM := by
 refine ⟨by decide, fun s hs => ?_, by decide, fun r hr => ?_, .mk 0 [] (by simp) (fun x hx => by cases hx)⟩
 ·have e : namesOf aM = [⟨#[97]⟩, ⟨#[120]⟩, ⟨#[111, 110, 101]⟩, ⟨#[116, 119, 111]⟩] := rfl
  rw [e] at hs
  simp only [List.mem_cons, List.not_mem_nil, or_false] at hs
  rcases hs with rfl | rfl | rfl | rfl <;> decide
 ·have e : aM.rules = [aR1, aR2] := rfl
  rw [e] at hr
  simp only [List.mem_cons, List.not_mem_nil, or_false] at hr
  rcases hr with rfl | rfl <;> exact ⟨⟨by decide, by decide, by decide, by decide, by decide, by decide, by decide⟩, by decide, by decide⟩
theorem aM_der : deriveF aM aD = .ok (.mk 0 [.mk 0 [], .mk 4 []]) := by kernel_rfl
theorem aM_all : allX aM 3 = .ok [.mk 0 [.mk 0 [], .mk 2 []], .mk 0 [.mk 0 [], .mk 4 []]] := by kernel_rfl
def aRA (n : ByteArray) (s : Int) (g : Int) (q : Int) : AV := .ag [vStr n, vi s, vi 0, .sl 0 1 [vi 0], .sl 0 1 [vi g], .nil, vi 0, vi 0, vi 0, .nil, .nil, .nil, .nil, vi q]
def aA : AV := .ag [vi 6, .sl 0 1 [vStr ⟨#[97]⟩], .sl 0 1 [vStr ⟨#[120]⟩], .nil, .nil, vi 0, vi 0, .sl 0 14 [aRA ⟨#[111, 110, 101]⟩ (-1) 2 (-1), aRA ⟨#[116, 119, 111]⟩ 0 0 0], vi 0, .nil]
theorem aR_pw {n : ByteArray} {s g q : Int} {l : List AV} {k : List AV} (h : PW Sub (flat l) (flat k)) : PW Sub (flat (aRA n s g q :: l)) (flat (vRule { name := n, src := s, dst := 0, need := [0], give := [g], move := [], second := q } :: k)) := by
 have e1 : Sub .nil (vs 0 []) := Sub.nil 1
 have e3 : Sub .nil (.sl 0 3 (([] : List (Int × Int × Int)).map vTake)) := Sub.nil 3
 exact PW.cons (Sub.refl _) (PW.cons (Sub.refl _) (PW.cons (Sub.refl _) (PW.cons (Sub.refl _) (PW.cons (Sub.refl _) (PW.cons e1 (PW.cons (Sub.refl _) (PW.cons (Sub.refl _) (PW.cons (Sub.refl _) (PW.cons e1 (PW.cons e1 (PW.cons e3 (PW.cons e1 (PW.cons (Sub.refl _) h)))))))))))))
theorem aA_le : leV aA (vM aM) := by
 unfold aA vM cM
 refine leV_ag ⟨leV_refl _, leV_refl _, leV_refl _, leV_nil _ _, leV_nil _ _, leV_refl _, leV_refl _, ?_, leV_refl _, leV_nil _ _, trivial⟩
 refine leV_slE (by rfl) (fun y hy => by
  obtain ⟨x, _, rfl⟩ := List.mem_map.1 hy; rfl) ?_
 exact aR_pw (aR_pw (PW.nil _))
def aDA : AV := .ag [vi 1, .sl 0 2 [.ag [vi 0, .nil], .ag [vi 0, .nil]]]
theorem aD_le : leV aDA (vV aD) := by
 rw [vV_eq]
 refine leV_ag ⟨leV_refl _, ?_, trivial⟩
 have e1 : Sub .nil (.sl 0 2 ([] : List AV)) := Sub.nil 2
 have e : aD.kids.map vV = [.ag [vi 0, .sl 0 2 []], .ag [vi 0, .sl 0 2 []]] := by
  show [vV (.mk 0 []), vV (.mk 0 [])] = _
  rw [vV_eq]; rfl
 rw [e]
 exact leV_slE (by rfl) (fun y hy => by
  simp only [List.mem_cons, List.not_mem_nil, or_false] at hy
  rcases hy with rfl | rfl <;> rfl) (PW.cons (Sub.refl _) (PW.cons e1 (PW.cons (Sub.refl _) (PW.cons e1 (PW.nil _)))))
theorem aD_ok : aD.Ok := by
 have h0 : (CV.mk 0 []).Ok := .mk 0 [] (by simp) (fun x hx => by cases hx)
 exact .mk 1 _ (by simp) (fun x hx => by
  simp only [List.mem_cons, List.not_mem_nil, or_false] at hx
  rcases hx with rfl | rfl <;> exact h0)
theorem con_awake : Con Tryz.prog 8 [] [] fun r _ => r = vb true := by
 refine Con.intro Tryz.func8 rfl Tryz.ntmps8 Tryz.results8 (by kernel_rfl) (by simp) 0 (by simp) ?_
 have hd := con_bDerive aM bra_of aM_len aD aD_ok
 rw [aM_der] at hd
 have hd := hd.leA (args' := [aA, aDA]) ⟨aA_le, aD_le, trivial⟩
 have ha := con_bAll aM 3 bra_of aM_len
 rw [aM_all] at ha
 have ha := ha.leA (args' := [aA, .sc (.int .i64 3)]) ⟨aA_le, leV_refl _, trivial⟩
 have hsh := (con_bShape aD aD_ok).leA (args' := [aDA]) ⟨aD_le, trivial⟩
 have e1 : shapeF aD = .tup [vV aD, vi 0] := by kernel_rfl
 rw [e1] at hsh
 have hsz := (con_bSize (.mk 0 []) (.mk 0 [] (by simp) (fun x hx => by cases hx))).leA (args' := [.ag [vi 0, .nil]]) ⟨by rw [vV_eq]; exact leV_ag ⟨leV_refl _, leV_nil _ _, trivial⟩, trivial⟩
 have e2 : cntC (.mk 0 []) 12 = 1 := by kernel_rfl
 rw [e2] at hsz
 have hv1 : vV (.mk 0 [.mk 0 [], .mk 4 []]) = .ag [vi 0, .sl 0 2 [.ag [vi 0, .sl 0 2 []], .ag [vi 4, .sl 0 2 []]]] := by rw [vV_eq]; show AV.ag [vi 0, .sl 0 2 [vV (.mk 0 []), vV (.mk 4 [])]] = _; rw [vV_eq, vV_eq]; rfl
 have hv2 : vV aD = .ag [vi 1, .sl 0 2 [.ag [vi 0, .sl 0 2 []], .ag [vi 0, .sl 0 2 []]]] := by rw [vV_eq]; show AV.ag [vi 1, .sl 0 2 [vV (.mk 0 []), vV (.mk 0 [])]] = _; rw [vV_eq]; rfl
 rw [hv2] at hsh
 simp only [exV, hv1] at hd
 simp only [allA, List.map_cons, List.map_nil] at ha
 simp only [aA, aRA, aDA] at hd ha hsh
 simp only [go_sem]
 refine CallU.freeze hd (by simp only [go_sem]) (by simp only [go_sem]) ?_
 rintro z bx rfl
 simp only [go_sem]
 refine CallU.free ha (by simp only [go_sem]) (by simp only [go_sem]) ?_
 rintro z bx rfl
 simp only [go_sem, vV_eq]
 refine CallU.freeze hsh (by simp only [go_sem]) (by simp only [go_sem]) ?_
 rintro z bx rfl
 simp only [go_sem]
 refine CallU.free hsz (by simp only [go_sem]) (by simp only [go_sem]) ?_
 rintro z bx rfl
 simp only [go_sem]
abbrev DS := Nat × Int
def deckA (l : List Int) (s : DS) : List AV := [.sl 0 1 (l.map vi), .sc (.int .i64 s.1), .sc (.int .u64 s.2)]
attribute [go_sem] deckA
def Dk (l : List Int) (s : DS) : Prop := s.1 <= l.length /\ l.length <= 1000
theorem con_dNew (l : List Int) : Con Tryz.prog 11 [vs 0 l] [] fun r b => r = .pb 0 0 /\ b = [deckA l (0, 11400714819323198485)] := by
 refine Con.intro Tryz.func11 rfl Tryz.ntmps11 Tryz.results11 (by kernel_rfl) (by simp) 1 (by simp) ?_
 simp only [go_sem]
theorem u64_range (x : Int) : 0 <= IntKind.u64.wrap x /\ IntKind.u64.wrap x < 18446744073709551616 := by
 rw [IntKind.wrap_u64]; omega
def longX (l : List Int) (s : DS) : Int := if s.1 < l.length then IntKind.u64.wrap l[s.1]! else 0
def longT (l : List Int) (s : DS) : Int := IntKind.u64.wrap (IntKind.u64.wrap (IntKind.u64.wrap (s.2 + longX l s) * 6364136223846793005) + 1442695040888963407)
def longS (l : List Int) (s : DS) : DS := (if s.1 < l.length then s.1 + 1 else s.1, longT l s)
def mixX (x : Int) (k : Nat) : Int := IntKind.u64.wrap (BitVec.ofInt 64 x ^^^ BitVec.ofInt 64 (x.fdiv (2 ^ min k 64))).toNat
def longV (l : List Int) (s : DS) : Int := mixX (IntKind.u64.wrap (mixX (longT l s) 33 * 18397679294719823053)) 29
theorem longV_range (l : List Int) (s : DS) : 0 <= longV l s /\ longV l s < 18446744073709551616 := u64_range _
theorem con_dLong (l : List Int) (s : DS) (h : Dk l s) : Con Tryz.prog 56 [.pb 0 0] [deckA l s]
  fun r b => r = .sc (.int .u64 (longV l s)) /\ b = [deckA l (longS l s)] := by
 refine Con.intro Tryz.func56 rfl Tryz.ntmps56 Tryz.results56 (by kernel_rfl) (by simp) 1 (by simp) ?_
 obtain ⟨at_, st⟩ := s
 obtain ⟨ha, hl⟩ := h
 simp only at ha
 by_cases h : at_ < l.length
 ·simp only [go_sem]
  refine DrawK.walk 10 mixed (by kernel_rfl) ?_
  have hg := getv h
  have hw : IntKind.i64.wrap (at_ + 1) = at_ + 1 := wrap_in (by omega) (by omega)
  simp only [go_sem, h]
  refine DrawK.walk 12 mixed (by kernel_rfl) ?_
  simp only [go_sem, h, hg, hw]
  refine DrawK.walk 11 mixed (by kernel_rfl) ?_
  simp only [go_sem, longV, mixX, longS, longT, longX, h]
  rfl
 ·simp only [go_sem]
  refine DrawK.walk 10 mixed (by kernel_rfl) ?_
  simp only [go_sem, h]
  refine DrawK.walk 11 mixed (by kernel_rfl) ?_
  simp only [go_sem, longV, mixX, longS, longT, longX, h]
  rfl
theorem longS_dk {l : List Int} {s : DS} (h : Dk l s) : Dk l (longS l s) := by
 obtain ⟨h1, h2⟩ := h
 refine ⟨?_, h2⟩
 unfold longS
 simp only
 split <;> omega
def nextV (l : List Int) (s : DS) (n : Int) : Int := if n < 1 then 0 else (longV l s / 2) % n
def nextS (l : List Int) (s : DS) (n : Int) : DS := if n < 1 then s else longS l s
theorem nextS_dk {l : List Int} {s : DS} {n : Int} (h : Dk l s) : Dk l (nextS l s n) := by
 unfold nextS; split
 ·exact h
 ·exact longS_dk h
theorem nextV_lt {l : List Int} {s : DS} {n : Int} (hn : 1 <= n) : 0 <= nextV l s n /\ nextV l s n < n := by
 unfold nextV
 rw [if_neg (by omega)]
 exact ⟨Int.emod_nonneg _ (by omega), Int.emod_lt_of_pos _ (by omega)⟩
theorem con_dNext (l : List Int) (s : DS) (n : Int) (h : Dk l s) : Con Tryz.prog 23 [.pb 0 0, vi n] [deckA l s]
  fun r b => r = vi (nextV l s n) /\ b = [deckA l (nextS l s n)] := by
 refine Con.intro Tryz.func23 rfl Tryz.ntmps23 Tryz.results23 (by kernel_rfl) (by simp) 1 (by simp) ?_
 by_cases h1 : n < 1
 ·simp only [go_sem, h1, nextV, nextS]
 ·have hr := longV_range l s
  simp only [go_sem, h1, nextV, nextS]
  refine CallU.boxes (i := 0) (is := []) (bx0 := [deckA l s]) (con_dLong l s h) (by simp only [go_sem]) (by simp only [go_sem]) (by simp only [go_sem]) (by simp only [go_sem]) (by simp only [go_sem]) ?_
  rintro r b ⟨rfl, rfl⟩
  simp only [go_sem]
  have hv : IntKind.i64.wrap ((longV l s).fdiv (2 ^ min 1 64)) = longV l s / 2 := by
   have e : (2 : Int) ^ min 1 64 = 2 := rfl
   rw [e, Int.fdiv_eq_ediv_of_nonneg _ (by omega)]
   exact wrap_in (by omega) (by omega)
  rw [hv, Int.tmod_eq_emod_of_nonneg (by omega)]
  exact ⟨by omega, rfl⟩
def oneV (l : List Int) (s : DS) (n : Int) : Bool := nextV l s n == 0
theorem con_dOne (l : List Int) (s : DS) (n : Int) (h : Dk l s) : Con Tryz.prog 37 [.pb 0 0, vi n] [deckA l s]
  fun r b => r = vb (oneV l s n) /\ b = [deckA l (nextS l s n)] := by
 refine Con.intro Tryz.func37 rfl Tryz.ntmps37 Tryz.results37 (by kernel_rfl) (by simp) 1 (by simp) ?_
 simp only [go_sem]
 refine CallU.boxes (i := 0) (is := []) (bx0 := [deckA l s]) (con_dNext l s n h) (by simp only [go_sem]) (by simp only [go_sem]) (by simp only [go_sem]) (by simp only [go_sem]) (by simp only [go_sem]) ?_
 rintro r b ⟨rfl, rfl⟩
 simp only [go_sem, oneV]
def smS (l : List Int) (s : DS) (most : Int) : Nat -> DS
 | 0 => s
 | n + 1 => nextS l (smS l s most n) (most + 1)
def smV (l : List Int) (s : DS) (most : Int) : Nat -> List Int
 | 0 => []
 | n + 1 => smV l s most n ++ [nextV l (smS l s most n) (most + 1)]
theorem smS_dk {l : List Int} {s : DS} {most : Int} (h : Dk l s) : ∀ n, Dk l (smS l s most n)
 | 0 => h
 | n + 1 => nextS_dk (smS_dk h n)
theorem smV_len {l : List Int} {s : DS} {most : Int} : ∀ n, (smV l s most n).length = n
 | 0 => rfl
 | n + 1 => by rw [smV, List.length_append, smV_len n]; rfl
theorem smV_low {l : List Int} {s : DS} {most : Int} (h : 0 <= most) : ∀ n, ∀ x ∈ smV l s most n, 0 <= x /\ x <= most
 | 0 => fun x hx => by cases hx
 | n + 1 => fun x hx => by
  rw [smV, List.mem_append] at hx
  rcases hx with hx | hx
  ·exact smV_low h n x hx
  ·simp only [List.mem_cons, List.not_mem_nil, or_false] at hx
   have := nextV_lt (l := l) (s := smS l s most n) (n := most + 1) (by omega)
   subst hx; omega
theorem con_dSmall (l : List Int) (s : DS) (n : Nat) (most : Int) (h : Dk l s) (hn : n <= 1000000) (hm : -1 <= most /\ most <= 1000000) : Con Tryz.prog 28 [.pb 0 0, vi n, vi most] [deckA l s]
  fun r b => r = vs 2 (smV l s most n) /\ b = [deckA l (smS l s most n)] := by
 refine Con.intro Tryz.func28 rfl Tryz.ntmps28 Tryz.results28 (by kernel_rfl) (by simp) 1 (by simp) ?_
 simp only [go_sem]
 refine LoopK.intro (fun i : Nat => ⟨22, [(0, .pb 0 0), (1, vi n), (2, vi most), (7, vs 1344 (smV l s most i)), (8, vi i)], [deckA l (smS l s most i)]⟩)
  (fun i => n - i) (fun i => i <= n) 0 (by omega) ?_ ?_
 ·simp only [go_sem, smV, smS, List.map_nil]
 rintro i hi
 by_cases h2 : i < n
 ·have hw : IntKind.i64.wrap (i + 1) = i + 1 := wrap_in (by omega) (by omega)
  have hw2 : IntKind.i64.wrap (most + 1) = most + 1 := wrap_in (by omega) (by omega)
  simp only [go_sem, h2, hw2]
  refine CallU.boxes (i := 0) (is := []) (bx0 := [deckA l (smS l s most i)]) (con_dNext l (smS l s most i) (most + 1) (smS_dk h i)) (by simp only [go_sem]) (by simp only [go_sem]) (by simp only [go_sem]) (by simp only [go_sem]) (by simp only [go_sem]) ?_
  rintro r b ⟨rfl, rfl⟩
  have hr : roomFor ((smV l s most i).length + 1) 8 := by rw [smV_len]; simp only [roomFor]; omega
  simp only [go_sem, hr, hw]
  refine roundK.intro (i + 1) (by omega) (by omega) ?_
  simp only [go_sem, smV, smS, List.map_append, List.map_cons, List.map_nil]
 ·have e : i = n := by omega
  subst e
  simp only [go_sem, h2]
theorem con_dSmallF (l : List Int) (s : DS) (n : Nat) (most : Int) (h : Dk l s) (hn : n <= 1000000) (hm : -1 <= most /\ most <= 1000000) : Con Tryz.prog 28 [.pb 0 0, vi n, vi most] [deckA l s]
  fun r b => r = vs 0 (smV l s most n) /\ b = [deckA l (smS l s most n)] :=
 ((con_dSmall l s n most h hn hm).freezeB fun _ => true).mono fun r b ⟨r1, b1, ⟨h1, h2⟩, h3, h4⟩ => by
  subst h1; subst h2; subst h3; subst h4
  exact ⟨rfl, rfl⟩
def pkV (l : List Int) (s : DS) (n : Nat) : Nat := (nextV l s n).toNat
def pkS (l : List Int) (s : DS) (n : Nat) : DS := nextS l s n
theorem pkV_eq {l : List Int} {s : DS} {n : Nat} (h : 1 <= n) : nextV l s n = (pkV l s n : Nat) /\ pkV l s n < n := by
 have := nextV_lt (l := l) (s := s) (n := n) (by omega)
 unfold pkV
 omega
def reF (l : List Int) (rs : List RD) : Nat -> Nat -> DS -> Nat × DS
 | 0, r, s => (r, s)
 | k + 1, r, s => if 0 <= rs[r]!.src then reF l rs k (pkV l s rs.length) (pkS l s rs.length) else (r, s)
theorem reF_ok {l : List Int} {rs : List RD} (h1 : 1 <= rs.length) : ∀ (k r : Nat) (s : DS), r < rs.length -> Dk l s -> (reF l rs k r s).1 < rs.length /\ Dk l (reF l rs k r s).2
 | 0, r, s, h, hd => ⟨h, hd⟩
 | k + 1, r, s, h, hd => by
  rw [reF]
  split
  ·exact reF_ok h1 k _ _ (pkV_eq h1).2 (nextS_dk hd)
  ·exact ⟨h, hd⟩
def firF (l : List Int) (rs : List RD) (most : Nat) (s : DS) : Nat × DS :=
 if most <= 1 then reF l rs 4 (pkV l s rs.length) (pkS l s rs.length) else (pkV l s rs.length, pkS l s rs.length)
theorem firF_ok {l : List Int} {rs : List RD} (h1 : 1 <= rs.length) {most : Nat} {s : DS} (hd : Dk l s) : (firF l rs most s).1 < rs.length /\ Dk l (firF l rs most s).2 := by
 unfold firF
 split
 ·exact reF_ok h1 4 _ _ (pkV_eq h1).2 (nextS_dk hd)
 ·exact ⟨(pkV_eq h1).2, nextS_dk hd⟩
def drF (l : List Int) (rs : List RD) : Nat -> Nat -> DS -> CV × DS
 | 0, _, s => (.mk 0 [], s)
 | f + 1, most, s =>
  if rs.length = 0 then (.mk 0 [], s) else
  if rs[(firF l rs most s).1]!.src < 0 \/ most <= 1 then (.mk ((firF l rs most s).1 : Nat) [], (firF l rs most s).2) else
  if rs[(firF l rs most s).1]!.second < 0 then (.mk ((firF l rs most s).1 : Nat) [(drF l rs f ((most - 1) / 2) (firF l rs most s).2).1], (drF l rs f ((most - 1) / 2) (firF l rs most s).2).2) else
  (.mk ((firF l rs most s).1 : Nat) [(drF l rs f ((most - 1) / 2) (firF l rs most s).2).1, (drF l rs f ((most - 1) / 2) (drF l rs f ((most - 1) / 2) (firF l rs most s).2).2).1],
   (drF l rs f ((most - 1) / 2) (drF l rs f ((most - 1) / 2) (firF l rs most s).2).2).2)
theorem drF_dk {l : List Int} {rs : List RD} : ∀ (f most : Nat) (s : DS), Dk l s -> Dk l (drF l rs f most s).2
 | 0, _, s, h => h
 | f + 1, most, s, h => by
  rw [drF]
  split
  ·exact h
  ·rename_i h0
   have h1 := (firF_ok (l := l) (rs := rs) (by omega) (most := most) h).2
   split
   ·exact h1
   ·split
    ·exact drF_dk f _ _ h1
    ·exact drF_dk f _ _ (drF_dk f _ _ h1)
def numB (n : Nat) (r : Int) : Option (Int × Int) := if 0 <= r /\ r < (max 1 n : Nat) then some (0, 0) else none
theorem numB_some {n : Nat} {r : Int} (h0 : 0 <= r) (h : r < (max 1 n : Nat)) : numB n r = some (0, 0) := if_pos ⟨h0, h⟩
theorem drF_dl {l : List Int} {rs : List RD} : ∀ (f most : Nat) (s : DS), Dk l s -> DlD (numB rs.length) most (drF l rs f most s).1
 | 0, _, s, h => .leaf _ _ _ (numB_some (by omega) (by omega))
 | f + 1, most, s, h => by
  rw [drF]
  split
  ·exact .leaf _ _ _ (numB_some (by omega) (by omega))
  ·rename_i h0
   obtain ⟨h2, h1⟩ := firF_ok (l := l) (rs := rs) (by omega) (most := most) h
   have hn := numB_some (n := rs.length) (r := ((firF l rs most s).1 : Nat)) (by omega) (by omega)
   split
   ·exact .leaf _ _ _ hn
   ·split
    ·exact .one _ _ _ _ hn (by omega) (drF_dl f _ _ h1)
    ·exact .two _ _ _ _ _ hn (by omega) (drF_dl f _ _ h1) (drF_dl f _ _ (drF_dk f _ _ h1))
theorem con_dDer1 (l : List Int) (m : MD) (hm : m.rules.length <= 1000000) (f most : Nat) (s : DS) (hm2 : most <= 1000000) (hd : Dk l s)
  (hrec : 2 <= most -> ∀ s, Dk l s -> Con Tryz.prog 14 [.pb 0 0, vM m, vi ((most - 1) / 2 : Nat)] [deckA l s] fun r b => r = vV (drF l m.rules f ((most - 1) / 2) s).1 /\ b = [deckA l (drF l m.rules f ((most - 1) / 2) s).2]) :
  Con Tryz.prog 14 [.pb 0 0, vM m, vi most] [deckA l s] fun r b => ∃ x, leV (r.freeze fun _ => true) (vV x) /\ x = (drF l m.rules (f + 1) most s).1 /\ b = [deckA l (drF l m.rules (f + 1) most s).2] := by
 refine Con.intro Tryz.func14 rfl Tryz.ntmps14 Tryz.results14 (by kernel_rfl) (by simp) 1 (by simp) ?_
 rw [drF]
 by_cases h0 : m.rules.length = 0
 ·simp only [go_sem, vM, cM, vss, h0, List.length_map, if_true]
  exact ⟨_, by rw [vV_eq]; exact leV_ag ⟨leV_refl _, leV_nil _ _, trivial⟩, rfl⟩
 have h0' : ((m.rules.length : Int) == 0) = false := beq_eq_false_iff_ne.2 (by omega)
 obtain ⟨e1, e2⟩ := pkV_eq (l := l) (s := s) (n := m.rules.length) (by omega)
 have hfo := firF_ok (l := l) (rs := m.rules) (by omega) (most := most) hd
 have hfe : firF l m.rules most s = if most <= 1 then reF l m.rules 4 (pkV l s m.rules.length) (pkS l s m.rules.length) else (pkV l s m.rules.length, pkS l s m.rules.length) := rfl
 have hd1 : Dk l (pkS l s m.rules.length) := nextS_dk hd
 have e3 : nextS l s m.rules.length = pkS l s m.rules.length := rfl
 simp only [go_sem, vM, cM, vss, h0, h0', List.length_map, if_false]
 refine CallU.boxes (i := 0) (is := []) (bx0 := [deckA l s]) (con_dNext l s m.rules.length hd) (by simp only [go_sem]) (by simp only [go_sem]) (by simp only [go_sem]) (by simp only [go_sem]) (by simp only [go_sem]) ?_
 rintro r b ⟨rfl, rfl⟩
 simp only [go_sem, e1, e3]
 generalize firF l m.rules most s = R at *
 generalize pkV l s m.rules.length = r0 at *
 generalize pkS l s m.rules.length = s1 at *
 clear e1 e3
 refine LoopK.intro (fun p : Nat × Nat × DS => ⟨85, [(0, .pb 0 0), (2, vi most), (4, .pb 1 0), (6, .pb 2 0), (7, .pb 3 0), (8, vi p.1)], [deckA l p.2.2, cM m, [vi 0, .nil], [vi p.2.1, .nil]]⟩)
  (fun p => 4 - p.1) (fun p => p.1 <= 4 /\ p.2.1 < m.rules.length /\ Dk l p.2.2 /\ (most <= 1 -> reF l m.rules (4 - p.1) p.2.1 p.2.2 = R) /\ (¬ most <= 1 -> (p.2.1, p.2.2) = R /\ p.1 = 0)) (0, r0, s1) ⟨by show 0 <= 4; omega, e2, hd1, fun h => by rw [hfe, if_pos h]; rfl, fun h => ⟨by rw [hfe, if_neg h], rfl⟩⟩ ?_ ?_
 ·simp only [go_sem, cM, vss]
  all_goals exact leB_self _
 rintro ⟨k, q, s2⟩ ⟨hk, hq, hd2, hr1, hr2⟩
 simp only at hk hq hd2 hr1 hr2
 have hgr := getRule hq
 have hend : ∀ (Rq : Prop), Rq -> Rq := fun _ h => h
 obtain ⟨f1, f2, hrl⟩ : m.rules[q]!.src = m.rules[q]!.src /\ m.rules[q]!.second = m.rules[q]!.second /\ True := ⟨rfl, rfl, trivial⟩
 by_cases hmo : most <= 1
 ·by_cases h4 : k < 4
  ·have e4 : 4 - k = (3 - k) + 1 := by omega
   have hr1 := hr1 hmo
   rw [e4, reF] at hr1
   by_cases hs : 0 <= m.rules[q]!.src
   ·rw [if_pos hs] at hr1
    obtain ⟨e1, e2⟩ := pkV_eq (l := l) (s := s2) (n := m.rules.length) (by omega)
    have e3 : nextS l s2 m.rules.length = pkS l s2 m.rules.length := rfl
    have hd3 : Dk l (pkS l s2 m.rules.length) := nextS_dk hd2
    have hw : IntKind.i64.wrap (k + 1) = k + 1 := wrap_in (by omega) (by omega)
    simp only [go_sem, cM, vss, h4, hmo, hq, hgr, hs, List.length_map]
    refine CallU.boxes (i := 0) (is := []) (bx0 := [deckA l s2]) (con_dNext l s2 m.rules.length hd2) (by simp only [go_sem]) (by simp only [go_sem]) (by simp only [go_sem]) (by simp only [go_sem]) (by simp only [go_sem]) ?_
    rintro r b ⟨rfl, rfl⟩
    simp only [go_sem, e1, e3, hw]
    generalize pkV l s2 m.rules.length = q3 at *
    generalize pkS l s2 m.rules.length = s3 at *
    refine roundK.intro (k + 1, q3, s3) ⟨by show k + 1 <= 4; omega, e2, hd3, fun _ => by show reF l m.rules (4 - (k + 1)) q3 s3 = R; rw [<- hr1, show 4 - (k + 1) = 3 - k by omega], fun h => h.elim⟩ (by show 4 - (k + 1) < 4 - k; omega) ?_
    simp only [go_sem]
   ·rw [if_neg hs] at hr1
    have hs' : m.rules[q]!.src < 0 := by omega
    simp only [go_sem, cM, vss, h4, hmo, hs, hs', hq, hgr, List.length_map]
    have e : R = (q, s2) := hr1.symm
    subst e
    simp only [or_true, if_true]
    exact ⟨_, by rw [vV_eq]; exact leV_ag ⟨leV_refl _, leV_nil _ _, trivial⟩, rfl, trivial⟩
  ·have e4 : 4 - k = 0 := by omega
   have hr1 := hr1 hmo
   rw [e4, reF] at hr1
   by_cases hs' : m.rules[q]!.src < 0
   ·skip
    simp only [go_sem, cM, vss, h4, hmo, hs', hq, hgr, List.length_map]
    have e : R = (q, s2) := hr1.symm
    subst e
    simp only [or_true, if_true]
    exact ⟨_, by rw [vV_eq]; exact leV_ag ⟨leV_refl _, leV_nil _ _, trivial⟩, rfl, trivial⟩
   ·skip
    simp only [go_sem, cM, vss, h4, hmo, hs', hq, hgr, List.length_map]
    have e : R = (q, s2) := hr1.symm
    subst e
    simp only [or_true, if_true]
    exact ⟨_, by rw [vV_eq]; exact leV_ag ⟨leV_refl _, leV_nil _ _, trivial⟩, rfl, trivial⟩
 have e : R = (q, s2) := (hr2 hmo).1.symm
 subst e
 obtain rfl : k = 0 := (hr2 hmo).2
 simp only [hmo, or_false]
 have hmo2 : (1 : Int) < (most : Int) := by omega
 have hsub : IntKind.i64.wrap ((most : Int) - 1) = ((most - 1 : Nat) : Int) := by rw [wrap_in (by omega) (by omega)]; omega
 have hsub' : (most : Int) - 1 = ((most - 1 : Nat) : Int) := by omega
 have hw1 : IntKind.i64.wrap ((most - 1 : Nat) : Int) = ((most - 1 : Nat) : Int) := wrap_in (by omega) (by omega)
 have hquo : IntKind.i64.wrap (((most - 1 : Nat) : Int).tdiv 2) = ((most - 1) / 2 : Nat) := by
  rw [Int.tdiv_eq_ediv_of_nonneg (by omega), wrap_in (by omega) (by omega)]; omega
 have hc1 := hrec (by omega) s2 hd2
 have hd3 := drF_dk (l := l) (rs := m.rules) f ((most - 1) / 2) s2 hd2
 have hc2 := hrec (by omega) _ hd3
 by_cases hs' : m.rules[q]!.src < 0
 ·simp only [hs', if_true]
  simp only [go_sem, cM, vss, hmo, hq, hgr, hs', List.length_map]
  exact ⟨_, by rw [vV_eq]; exact leV_ag ⟨leV_refl _, leV_nil _ _, trivial⟩, rfl⟩
 simp only [hs', if_false]
 generalize (drF l m.rules f ((most - 1) / 2) s2).1 = x at *
 generalize (drF l m.rules f ((most - 1) / 2) s2).2 = s3 at *
 simp only [go_sem, cM, vss, hmo, hq, hgr, hs', List.length_map]
 refine DrawK.effs0 0 [7] [] 9 (.one 9 (.front 10 (.one 11 .done))) none (deckA l s2) mixed (by kernel_rfl) (by kernel_rfl) (by simp only [go_sem]) (by simp only [go_sem]) ?_
 simp only [go_sem, hsub', hw1, hquo]
 refine EffK.mk hc1 (by simp only [go_sem]) (by simp only [go_sem, vM, cM, vss]) (by simp only [go_sem]) (by simp only [go_sem, vV_eq]) ?_
 simp only [go_sem, vV_eq]
 refine ⟨?_, trivial⟩
 have h18 : roomFor 1 32 := by simp only [roomFor]; omega
 have h28 : roomFor 2 32 := by simp only [roomFor]; omega
 by_cases hs2 : m.rules[q]!.second < 0
 ·have hs3 : ¬ 0 <= m.rules[q]!.second := by omega
  simp only [hs2, if_true]
  simp only [go_sem, hs3, h18]
  refine ⟨_, ?_, rfl⟩
  simp only [CV.n, CV.kids, List.map_cons, List.map_nil, vV_eq]
  exact leV_refl _
 have hs3 : 0 <= m.rules[q]!.second := by omega
 simp only [hs2, if_false]
 generalize (drF l m.rules f ((most - 1) / 2) s3).1 = y at *
 generalize (drF l m.rules f ((most - 1) / 2) s3).2 = s4 at *
 simp only [go_sem, hs3, h18]
 refine DrawK.effs0 0 [7] [] 9 (.one 9 (.front 10 (.one 11 .done))) none (deckA l s3) mixed (by kernel_rfl) (by kernel_rfl) (by simp only [go_sem]) (by simp only [go_sem]) ?_
 simp only [go_sem, hsub', hw1, hquo]
 refine EffK.mk hc2 (by simp only [go_sem]) (by simp only [go_sem, vM, cM, vss]) (by simp only [go_sem]) (by simp only [go_sem, vV_eq]) ?_
 simp only [go_sem, vV_eq]
 simp only [go_sem, h28]
 refine ⟨⟨_, ?_, rfl⟩, trivial⟩
 simp only [CV.n, CV.kids, List.map_cons, List.map_nil, vV_eq]
 exact leV_refl _
theorem con_dDer (l : List Int) (m : MD) (hm : m.rules.length <= 1000000) : ∀ (f most : Nat) (s : DS), most < 2 ^ (f + 1) -> most <= 1000000 -> Dk l s ->
  Con Tryz.prog 14 [.pb 0 0, vM m, vi most] [deckA l s] fun r b => r = vV (drF l m.rules (f + 1) most s).1 /\ b = [deckA l (drF l m.rules (f + 1) most s).2]
 | 0, most, s, h, h2, hd => (((con_dDer1 l m hm 0 most s h2 hd fun h3 => by simp at h; omega)).freezeB fun _ => true).weak fun r b ⟨r1, b1, ⟨x, h1, h2, h3⟩, h7, h8⟩ => by
  subst h2; subst h3; subst h7; subst h8
  exact ⟨_, ⟨rfl, rfl⟩, h1⟩
 | f + 1, most, s, h, h2, hd => (((con_dDer1 l m hm (f + 1) most s h2 hd fun h3 s hs => con_dDer l m hm f ((most - 1) / 2) s (by rw [Nat.pow_succ] at h; omega) (by omega) hs)).freezeB fun _ => true).weak fun r b ⟨r1, b1, ⟨x, h1, h2, h3⟩, h7, h8⟩ => by
  subst h2; subst h3; subst h7; subst h8
  exact ⟨_, ⟨rfl, rfl⟩, h1⟩
end Go.AM
namespace Go.AM
end Go.AM
