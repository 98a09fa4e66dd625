/- BrF LBra5 LBra7 LBra6 Am7 BrG BrIn0 BrIn BrIn2 BrIn3 BrIn4 BrIn5 Am8 BrI BrI1 LBra8 LBra9 -/
import Derived.Test.YtiklkcjkmhkgjaaGreatg15
import Derived.Test.YtiklkcjkmhkgjaaGreatg7
import Derived.Test.YtiklkcjkmhkgjaaGreatg9
import Derived.Test.YtiklkcjkmhkgjaaGreatg6
import Derived.Laws.CopyRow
import Derived.Lib.AppendZerosOnto
import Derived.Lib.Overlaps
import Derived.Shelf.RegionOpenPlain
import Derived.WalkKit
import Derived.Lib.Walk
import Derived.Lib.SliceRun
import Derived.Lib.JoinLaws
import Derived.Laws.Externs
namespace Go.AM
open Go Go.Proofs Go.RowKit
set_option maxRecDepth 100000
set_option maxHeartbeats 8000000
def valB (s : Int × List Int) : CV := .mk 0 (.mk s.1 [] :: s.2.map fun n => .mk n [])
def kidE (n : Int) : AV := .ag [vi n, .nil]
theorem val_le (s : Int × List Int) : leV (AV.freeze (fun _ => true) (.ag [vi 0, .sl 2 2 ((s.1 :: s.2).map kidE)])) (vV (valB s)) := by
 rw [vV_eq]
 refine leV_ag ⟨leV_refl _, ?_, trivial⟩
 show leV (.sl 0 2 ((s.1 :: s.2).map kidE)) (.sl 0 2 ((valB s).kids.map vV))
 have e : (valB s).kids.map vV = (s.1 :: s.2).map fun n => .ag [vi n, .sl 0 2 []] := by
  unfold valB
  simp only [CV.kids, List.map_cons, List.map_map]
  congr 1
 rw [e]
 refine leV_slE (by simp) (fun y hy => by
  obtain ⟨n, _, rfl⟩ := List.mem_map.1 hy; rfl) ?_
 have key : ∀ l : List Int, PW Sub (flat (l.map kidE)) (flat (l.map fun n => AV.ag [vi n, .sl 0 2 []])) := by
  intro l
  induction l with
  | nil => exact PW.nil _
  | cons n l ih => exact PW.cons (Sub.refl _) (PW.cons (fun S w v hv => (by cases hv; exact .slNil _ _ _ _ (by omega) (by omega) (fun _ => rfl))) ih)
 exact key _
theorem con_bvalue (s : Int × List Int) (hl : s.2.length <= 1000) : Con Tryz.prog 45 [vSb s] [] fun x _ => x = vV (valB s) := by
 refine Con.frozL ?_
 unfold vSb
 refine Con.intro Tryz.func45 rfl Tryz.ntmps45 Tryz.results45 (by kernel_rfl) (by simp) 0 (by simp) ?_
 simp only [go_sem]
 refine LoopK.intro (fun i : Nat => ⟨27, [(1, .pb 0 0), (2, .pb 1 0), (3, .pb 2 0), (12, vs 0 s.2), (13, vi s.2.length), (14, vi i)], [[vi s.1, vs 0 s.2], [vi 0, .nil], [vi 0, .sl 640 2 ((s.1 :: s.2.take i).map kidE)]]⟩)
  (fun i => s.2.length - i) (fun i => i <= s.2.length) 0 (by omega) ?_ ?_
 ·simp only [go_sem, List.take_zero, List.map_cons, List.map_nil, kidE]
  all_goals exact leB_self _
 rintro i hi
 by_cases h : i < s.2.length
 ·have hg := getv h
  have hw : IntKind.i64.wrap (i + 1) = i + 1 := wrap_in (by omega) (by omega)
  have e : (s.1 :: s.2.take (i + 1)).map kidE = (s.1 :: s.2.take i).map kidE ++ [.ag [vi s.2[i]!, .nil]] := by
   rw [List.take_succ_eq_append_getElem h, <- getElem!_pos s.2 i h, <- List.cons_append, List.map_append]; rfl
  simp only [go_sem, h, hg, hw]
  refine ⟨by simp only [roomFor, List.length_take]; omega, ?_⟩
  refine roundK.intro (i + 1) (by omega) (by omega) ?_
  simp only [go_sem, e]
  all_goals exact leB_self _
 ·have e : s.2.take i = s.2 := List.take_of_length_le (by omega)
  simp only [go_sem, h, e]
  exact val_le s
def kindF (m : MD) : Int := if checkF m ≠ 0 then checkF m else if m.kind ≠ 6 then 15 else 0
theorem con_bcheck (m : MD) (h : LenM m) : Con Tryz.prog 43 [vM m] [] fun x _ => x = vi (kindF m) := by
 refine Con.intro Tryz.func43 rfl Tryz.ntmps43 Tryz.results43 (by kernel_rfl) (by simp) 0 (by simp) ?_
 simp only [go_sem, vM, cM, vss]
 refine CallU.free (con_CheckG m h) (by simp only [go_sem]) (by simp only [go_sem, vM, cM, vss]) ?_
 rintro r bx rfl
 unfold kindF
 by_cases h1 : checkF m = 0
 ·by_cases h2 : m.kind = 6
  ·have h2' : (m.kind != 6) = false := by rw [h2]; rfl
   simp only [go_sem, h1, h2, ne_eq, not_true, if_false]
  ·have h2' : (m.kind != 6) = true := bne_iff_ne.2 h2
   simp only [go_sem, h1, h2, h2', ne_eq, not_true, not_false_iff, if_true, if_false]
 ·have h1' : (checkF m != 0) = true := bne_iff_ne.2 h1
  simp only [go_sem, h1, h1', ne_eq, not_false_iff, if_true]
def resE : ResB (Int × List Int) -> Except Int (Int × List Int)
 | .ok s => .ok s
 | .blocked => .error 18
 | .limit => .error 1
def catE : Except Int (Int × List Int) -> Except Int (List (Int × List Int)) -> Except Int (List (Int × List Int))
 | .error e, _ => .error e
 | .ok _, .error e => .error e
 | .ok s, .ok l => .ok (s :: l)
def ruleE (np : Nat) (rs : List RD) (r : Int) : Except Int (List (Int × List Int)) -> Except Int (Int × List Int)
 | .error e => .error e
 | .ok l => if r < 0 \/ (rs.length : Int) <= r \/ l.length ≠ (premB rs[r.toNat]!).length then .error 16 else resE (appB np rs[r.toNat]! l)
mutual
def derE (np : Nat) (rs : List RD) : CV -> Except Int (Int × List Int)
 | .mk r k => ruleE np rs r (dersE np rs k)
def dersE (np : Nat) (rs : List RD) : List CV -> Except Int (List (Int × List Int))
 | [] => .ok []
 | x :: l => catE (derE np rs x) (dersE np rs l)
end
theorem derE_eq (np : Nat) (rs : List RD) (a : CV) : derE np rs a = ruleE np rs a.n (dersE np rs a.kids) := by cases a; rw [derE]; rfl
structure BraM (m : MD) : Prop where
 places : 1 <= m.places.length /\ m.places.length <= 1000
 few : m.rules.length <= 1000
 rules : ∀ r ∈ m.rules, BrR m.places.length r
theorem app_sm {np : Nat} {r : RD} {l : List (Int × List Int)} {s : Int × List Int} (hr : BrR np r) (h : appB np r l = .ok s) : SmB np s := by
 obtain ⟨_, h2, rfl, h4⟩ := app_ok h
 refine ⟨by unfold outB21; simp, fun x hx => ⟨?_, h4 x hx⟩⟩
 unfold outB21 at hx
 obtain ⟨p, hp, rfl⟩ := List.mem_map.1 hx
 have hp := List.mem_range.1 hp
 have a := h2 p hp
 have b := hr.lowG p hp
 omega
theorem resE_err {x : ResB (Int × List Int)} {e : Int} (h : resE x = .error e) : e ≠ 0 := by
 cases x <;> simp only [resE, reduceCtorEq, Except.error.injEq] at h <;> omega
theorem ruleE_ok {np : Nat} {rs : List RD} {r : Int} {l : Except Int (List (Int × List Int))} {s : Int × List Int} (h : ruleE np rs r l = .ok s) : ∃ k, l = .ok k /\ 0 <= r /\ r < rs.length /\ k.length = (premB rs[r.toNat]!).length /\ appB np rs[r.toNat]! k = .ok s := by
 cases l with
 | error e => simp [ruleE] at h
 | ok k =>
  simp only [ruleE] at h
  split at h
  ·simp at h
  ·rename_i hn
   refine ⟨k, rfl, by omega, by omega, by omega, ?_⟩
   cases hx : appB np rs[r.toNat]! k <;> rw [hx] at h <;> simp only [resE, reduceCtorEq, Except.ok.injEq] at h
   rw [h]
theorem ruleE_sm {np : Nat} {rs : List RD} (hrs : ∀ r ∈ rs, BrR np r) {r : Int} {l : Except Int (List (Int × List Int))} {s : Int × List Int} (h : ruleE np rs r l = .ok s) : SmB np s := by
 obtain ⟨k, _, h1, h2, _, h4⟩ := ruleE_ok h
 exact app_sm (hrs _ (by rw [getElem!_pos rs _ (by omega)]; exact List.getElem_mem _)) h4
theorem derE_sm {np : Nat} {rs : List RD} (hrs : ∀ r ∈ rs, BrR np r) {a : CV} {s : Int × List Int} (h : derE np rs a = .ok s) : SmB np s := by
 rw [derE_eq] at h; exact ruleE_sm hrs h
mutual
theorem derE_err {np : Nat} {rs : List RD} : ∀ (a : CV) {e : Int}, derE np rs a = .error e -> e ≠ 0
 | .mk r k, e, h => by
  rw [derE] at h
  cases hk : dersE np rs k with
  | error e' => rw [hk] at h; simp only [ruleE, Except.error.injEq] at h; subst h; exact dersE_err k hk
  | ok l =>
   rw [hk] at h
   simp only [ruleE] at h
   split at h
   ·simp only [Except.error.injEq] at h; omega
   ·exact resE_err h
theorem dersE_err {np : Nat} {rs : List RD} : ∀ (l : List CV) {e : Int}, dersE np rs l = .error e -> e ≠ 0
 | [], e, h => by simp [dersE] at h
 | x :: l, e, h => by
  rw [dersE] at h
  cases hx : derE np rs x with
  | error e' => rw [hx] at h; simp only [catE, Except.error.injEq] at h; subst h; exact derE_err x hx
  | ok s =>
   cases hl : dersE np rs l with
   | error e' => rw [hx, hl] at h; simp only [catE, Except.error.injEq] at h; subst h; exact dersE_err l hl
   | ok t => rw [hx, hl] at h; simp [catE] at h
end
def exA : Except Int (Int × List Int) -> AV
 | .ok s => .tup [vSb s, vi 0]
 | .error e => .tup [.ag [vi 0, .nil], vi e]
theorem exA_res (x : ResB (Int × List Int)) : resA x = exA (resE x) := by cases x <;> rfl
def appE (L : List (Int × List Int)) : Except Int (List (Int × List Int)) -> Except Int (List (Int × List Int))
 | .error e => .error e
 | .ok l => .ok (L ++ l)
theorem appE_cat (L : List (Int × List Int)) (s : Int × List Int) (x : Except Int (List (Int × List Int))) : appE L (catE (.ok s) x) = appE (L ++ [s]) x := by
 cases x <;> simp [appE, catE]
theorem con_bderive (m : MD) (hm : BraM m) : ∀ (N : Nat) (a : CV), SizeOf.sizeOf a <= N -> a.Slim -> Con Tryz.prog 44 [vM m, vV a] [] fun x _ => x = exA (derE m.places.length m.rules a) := by
 intro N
 induction N with
 | zero => intro a hN; cases a; simp at hN
 | succ N ih =>
 intro a hN ha
 have hal := ha.len
 have hrec : ∀ x ∈ a.kids, Con Tryz.prog 44 [vM m, vV x] [] fun r _ => r = exA (derE m.places.length m.rules x) := fun x hx => ih x (by have := kid_size hx; omega) (ha.kid hx)
 obtain ⟨R, hR⟩ : ∃ R, R = derE m.places.length m.rules a := ⟨_, rfl⟩
 have hRe := derE_eq m.places.length m.rules a
 rw [<- hR] at hRe ⊢
 have hfew := hm.few
 rw [vV_eq a]
 refine Con.frozL ?_
 refine Con.intro Tryz.func44 rfl Tryz.ntmps44 Tryz.results44 (by kernel_rfl) (by simp) 0 (by simp) ?_
 simp only [go_sem, vM, cM, vss]
 refine LoopK.intro (fun p : Nat × List (Int × List Int) => ⟨69, [(2, .pb 0 0), (3, .pb 1 0), (4, .pb 2 0), (5, vi 0), (6, .sl 2048 2 (p.2.map vSb)), (12, .sl 0 2 (a.kids.map vV)), (13, vi a.kids.length), (14, vi p.1)], cM m :: [vi a.n, .sl 0 2 (a.kids.map vV)] :: [vi 0, .nil] :: Rk 2 (2 * p.1)⟩)
  (fun p => a.kids.length - p.1) (fun p => p.1 <= a.kids.length /\ p.2.length = p.1 /\ (∀ s ∈ p.2, SmB m.places.length s) /\ dersE m.places.length m.rules a.kids = appE p.2 (dersE m.places.length m.rules (a.kids.drop p.1))) (0, []) ⟨by show 0 <= _; omega, rfl, fun s hs => (by cases hs), by
   rw [List.drop_zero]; cases dersE m.places.length m.rules a.kids <;> rfl⟩ ?_ ?_
 ·simp only [go_sem, cM, vss, List.map_nil]
  exact leB_self []
 rintro ⟨i, L⟩ ⟨hi, hLl, hLs, hE⟩
 simp only at hi hLl hLs hE
 by_cases h : i < a.kids.length
 ·have hg := getvV h
  have hw : IntKind.i64.wrap (i + 1) = i + 1 := wrap_in (by omega) (by omega)
  have hB := Rk_len 2 (2 * i)
  have n0 := fun L : List (List AV) => app_at0 (L := L) hB
  have n1 := fun L : List (List AV) => app_at1 (L := L) hB
  have s0 := fun (L : List (List AV)) y => app_set0 (L := L) (z := y) hB
  have s1 := fun (L : List (List AV)) y => app_set1 (L := L) (z := y) hB
  have hr := hrec _ (mem_bang h)
  have ed : a.kids.drop i = a.kids[i]! :: a.kids.drop (i + 1) := by rw [<- List.getElem_cons_drop h, <- getElem!_pos a.kids i h]
  rw [ed, dersE] at hE
  have herr := fun e : Int => derE_err (np := m.places.length) (rs := m.rules) a.kids[i]! (e := e)
  have hsm := fun s => derE_sm (np := m.places.length) hm.rules (a := a.kids[i]!) (s := s)
  generalize a.kids[i]! = x at hg hr hE herr hsm
  simp only [go_sem, cM, vss, h, hg, hB, n0, s0]
  refine CallU.free hr (by simp only [go_sem]) (by simp only [go_sem, vM, cM, vss, vV_eq]) ?_
  rintro r bx rfl
  cases hx : derE m.places.length m.rules x with
  | error e =>
   have he : (e != 0) = true := bne_iff_ne.2 (herr e hx)
   have eR : R = .error e := by rw [hRe, hE, hx]; rfl
   rw [eR]
   simp only [go_sem, exA, he, hB, n1, s1, List.append_assoc, List.length_append, List.length_cons, List.length_nil]
   exact leV_refl _
  | ok s =>
   have hss := hsm s hx
   rw [hx, appE_cat] at hE
   simp only [go_sem, exA, vSb, hB, n1, s1, hw, List.append_assoc, List.length_append, List.length_cons, List.length_nil]
   refine ⟨by simp only [roomFor]; omega, ?_⟩
   refine roundK.intro (i + 1, L ++ [s]) ⟨by show i + 1 <= _; omega, by show (L ++ [s]).length = i + 1; rw [List.length_append, hLl]; rfl, fun t ht => ?_, hE⟩ (by show a.kids.length - (i + 1) < a.kids.length - i; omega) ?_
   ·rcases List.mem_append.1 ht with ht | ht
    ·exact hLs t ht
    ·rw [List.mem_singleton] at ht; subst ht; exact hss
   ·simp only [go_sem, vSb, List.map_append, List.map_cons, List.map_nil, show 2 * (i + 1) = 2 * i + 1 + 1 by omega, Rk_succ2]
 ·obtain rfl : i = a.kids.length := by omega
  rw [List.drop_length, dersE] at hE
  have hE2 : dersE m.places.length m.rules a.kids = .ok L := by rw [hE]; simp [appE]
  rw [hE2] at hRe
  have hRe2 : R = if a.n < 0 \/ (m.rules.length : Int) <= a.n \/ L.length ≠ (premB m.rules[a.n.toNat]!).length then .error 16 else resE (appB m.places.length m.rules[a.n.toNat]! L) := hRe
  by_cases h1 : a.n < 0
  ·rw [if_pos (.inl h1)] at hRe2
   rw [hRe2]
   simp only [go_sem, cM, vss, h, h1, exA]
   exact leV_refl _
  by_cases h2 : (m.rules.length : Int) <= a.n
  ·rw [if_pos (.inr (.inl h2))] at hRe2
   rw [hRe2]
   simp only [go_sem, cM, vss, h, h1, h2, exA, List.length_map]
   exact leV_refl _
  obtain ⟨k, hk⟩ : ∃ k : Nat, a.n = k := ⟨a.n.toNat, by omega⟩
  have hkl : k < m.rules.length := by omega
  have hgr := getRule hkl
  have hkt : (k : Int).toNat = k := by omega
  have hpr := con_bprem m.rules[k]!
  have hap := con_bapply m m.rules[k]! L hm.places (hm.rules _ (mem_bang hkl))
  have h2' : ¬ m.rules.length <= k := by omega
  have h1' : ¬ (k : Int) < 0 := by omega
  have h2i : ¬ (m.rules.length : Int) <= (k : Int) := by omega
  rw [hk, hkt] at hRe2
  generalize m.rules[k]! = r at hgr hpr hap hRe2
  simp only [go_sem, cM, vss, h, hk, h1', h2i, hkl, hgr, List.length_map]
  refine CallU.free hpr (by simp only [go_sem]) (by simp only [go_sem]) ?_
  rintro z bx rfl
  by_cases h3 : L.length = (premB r).length
  ·have h3' : ((L.length : Int) != ((premB r).length : Int)) = false := by rw [h3]; simp
   rw [if_neg (by omega)] at hRe2
   rw [hRe2]
   have hap2 := hap h3 hLs
   rw [exA_res] at hap2
   simp only [go_sem, h3', List.length_map]
   refine DrawK.freeze (fun t => t == 2048) ?_
   generalize resE (appB m.places.length r L) = y at hap2
   cases y
   all_goals
    simp only [exA, vSb] at hap2
    simp only [go_sem]
    refine DrawK.walk 11 mixed (by kernel_rfl) ?_
    simp only [go_sem, hkl, hgr]
    refine CallY.mk hap2 (by simp only [go_sem, vM, cM, vss]) (by simp only [go_sem]) (.inl (by simp only [go_sem])) ?_
    simp only [go_sem, exA, vSb]
    exact leV_refl _
  ·have h3' : ((L.length : Int) != ((premB r).length : Int)) = true := bne_iff_ne.2 (by omega)
   rw [if_pos (.inr (.inr h3))] at hRe2
   rw [hRe2]
   simp only [go_sem, h3', exA, List.length_map]
   exact leV_refl _
theorem con_bderiveF (m : MD) (hm : BraM m) (a : CV) (ha : a.Slim) : Con Tryz.prog 44 [vM m, vV a] [] fun x _ => x = exA (derE m.places.length m.rules a) := con_bderive m hm _ a (Nat.le_refl _) ha
def deriveF (m : MD) (a : CV) : Except Int CV :=
 if kindF m ≠ 0 then .error (kindF m) else if 12 < cntC a 12 then .error 1 else (derE m.places.length m.rules a).map valB
def exV : Except Int CV -> AV
 | .ok c => .tup [vV c, vi 0]
 | .error e => .tup [.ag [vi 0, .nil], vi e]
theorem con_bDerive (m : MD) (hm : kindF m = 0 -> BraM m) (hl : LenM m) (a : CV) (ha : a.Ok) : Con Tryz.prog 15 [vM m, vV a] [] fun x _ => x = exV (deriveF m a) := by
 have hck := con_bcheck m hl
 have hsz := con_bSize a ha
 obtain ⟨R, hR⟩ : ∃ R, R = deriveF m a := ⟨_, rfl⟩
 have hRe := hR
 rw [<- hR]
 unfold deriveF at hRe
 have hdr := fun h1 h2 => con_bderiveF m (hm h1) a (cnt_slim h2)
 rw [vV_eq a] at *
 refine Con.intro Tryz.func15 rfl Tryz.ntmps15 Tryz.results15 (by kernel_rfl) (by simp) 0 (by simp) ?_
 simp only [go_sem, vM, cM, vss]
 refine CallU.free hck (by simp only [go_sem]) (by simp only [go_sem, vM, cM, vss]) ?_
 rintro z bx rfl
 by_cases h1 : kindF m = 0
 case neg =>
  have h1' : (kindF m != 0) = true := bne_iff_ne.2 h1
  rw [if_pos h1] at hRe
  simp only [go_sem, h1', hRe, exV]
 have h1' : (kindF m != 0) = false := by rw [h1]; rfl
 rw [if_neg (fun h => h h1)] at hRe
 simp only [go_sem, h1]
 refine CallU.free hsz (by simp only [go_sem]) (by simp only [go_sem]) ?_
 rintro z bx rfl
 by_cases h2 : 12 < cntC a 12
 ·rw [if_pos h2] at hRe
  simp only [go_sem, h2, hRe, exV]
 rw [if_neg h2] at hRe
 simp only [go_sem, h2]
 refine CallU.free (hdr h1 (by omega)) (by simp only [go_sem]) (by simp only [go_sem, vM, cM, vss]) ?_
 rintro z bx rfl
 have herr := fun e : Int => derE_err (np := m.places.length) (rs := m.rules) a (e := e)
 have hsm := fun s => derE_sm (np := m.places.length) (hm h1).rules (a := a) (s := s)
 have hpl := (hm h1).places
 cases hd : derE m.places.length m.rules a with
 | error e =>
  have he : (e != 0) = true := bne_iff_ne.2 (herr e hd)
  rw [hd] at hRe
  simp only [Except.map] at hRe
  simp only [go_sem, exA, he, hRe, exV]
 | ok s =>
  have hs := hsm s hd
  have hv := con_bvalue s (by rw [hs.1]; omega)
  rw [hd] at hRe
  simp only [Except.map] at hRe
  rw [vV_eq] at hv
  simp only [go_sem, exA, vSb]
  refine CallU.free hv (by simp only [go_sem]) (by simp only [go_sem, vSb]) ?_
  rintro z bx rfl
  rw [hRe]
  simp only [go_sem, exV, vV_eq]
end Go.AM
namespace Go.AM
structure OrdB {β : Type} (cmp : β -> β -> Int) : Prop where
 zero : ∀ a b, cmp a b = 0 ↔ a = b
 anti : ∀ a b, cmp a b = - cmp b a
 trans : ∀ a b c, cmp a b < 0 -> cmp b c < 0 -> cmp a c < 0
def SortB {β : Type} (cmp : β -> β -> Int) (l : List β) : Prop := l.Pairwise fun a b => cmp a b < 0
def posB {β : Type} (cmp : β -> β -> Int) (c : β) : List β -> Nat
 | [] => 0
 | x :: l => if cmp x c < 0 then posB cmp c l + 1 else 0
def insB {β : Type} (cmp : β -> β -> Int) (l : List β) (c : β) : List β := l.take (posB cmp c l) ++ c :: l.drop (posB cmp c l)
section
variable {β : Type} {cmp : β -> β -> Int}
theorem pos_le (c : β) : ∀ l : List β, posB cmp c l <= l.length
 | [] => Nat.le_refl _
 | x :: l => by
  have := pos_le c l
  rw [posB, List.length_cons]; split <;> omega
theorem pos_lt (ho : OrdB cmp) (c : β) : ∀ {l : List β}, SortB cmp l -> ∀ {h : Nat} (hh : h < l.length), cmp l[h] c < 0 ↔ h < posB cmp c l
 | [], _, _, hh => absurd hh (Nat.not_lt_zero _)
 | x :: l, hs, h, hh => by
  obtain ⟨h1, h2⟩ := List.pairwise_cons.1 hs
  rw [posB]
  by_cases hx : cmp x c < 0
  ·rw [if_pos hx]
   cases h with
   | zero => simp [hx]
   | succ k =>
    have := pos_lt ho c h2 (h := k) (by rw [List.length_cons] at hh; omega)
    rw [List.getElem_cons_succ, this]; omega
  ·rw [if_neg hx]
   cases h with
   | zero => simp [hx]
   | succ k =>
    rw [List.getElem_cons_succ]
    constructor
    ·intro hk
     exact absurd (ho.trans _ _ _ (h1 _ (List.getElem_mem _)) hk) hx
    ·intro hk; omega
theorem pos_lt' [Inhabited β] (ho : OrdB cmp) (c : β) {l : List β} (hs : SortB cmp l) {h : Nat} (hh : h < l.length) : cmp l[h]! c < 0 ↔ h < posB cmp c l := by
 rw [getElem!_pos l h hh]; exact pos_lt ho c hs hh
theorem pos_there [Inhabited β] (ho : OrdB cmp) {c : β} {l : List β} (hs : SortB cmp l) : (posB cmp c l < l.length /\ cmp l[posB cmp c l]! c = 0) ↔ c ∈ l := by
 constructor
 ·rintro ⟨h1, h2⟩
  rw [getElem!_pos l _ h1, ho.zero] at h2
  rw [<- h2]; exact List.getElem_mem _
 ·intro hc
  obtain ⟨k, hk, he⟩ := List.getElem_of_mem hc
  have h1 : ¬ k < posB cmp c l := by
   rw [<- pos_lt ho c hs hk, he, (ho.zero c c).2 rfl]; omega
  have h2 : posB cmp c l < l.length := by omega
  have h3 : posB cmp c l = k := by
   by_cases hlt : posB cmp c l < k
   ·have := List.pairwise_iff_getElem.1 hs _ _ h2 hk hlt
    rw [he] at this
    exact absurd ((pos_lt ho c hs h2).1 this) (by omega)
   ·omega
  exact ⟨h2, by rw [getElem!_pos l _ h2, ho.zero]; simp only [h3, he]⟩
theorem ins_cons (x : β) (l : List β) (c : β) : insB cmp (x :: l) c = if cmp x c < 0 then x :: insB cmp l c else c :: x :: l := by
 unfold insB
 rw [posB]
 split
 ·simp
 ·simp
theorem ins_mem : InsOk (insB cmp) := by
 intro l x y
 unfold insB
 have : y ∈ l ↔ y ∈ l.take (posB cmp x l) \/ y ∈ l.drop (posB cmp x l) := by
  rw [<- List.mem_append, List.take_append_drop]
 rw [List.mem_append, List.mem_cons, this]
 constructor
 ·rintro (h | h | h)
  ·exact .inl (.inl h)
  ·exact .inr h
  ·exact .inl (.inr h)
 ·rintro ((h | h) | h)
  ·exact .inl h
  ·exact .inr (.inr h)
  ·exact .inr (.inl h)
theorem ins_len : InsLen (insB cmp) := by
 intro l x
 unfold insB
 have := pos_le (cmp := cmp) x l
 rw [List.length_append, List.length_cons, List.length_take, List.length_drop]; omega
theorem ins_sort (ho : OrdB cmp) (c : β) : ∀ {l : List β}, SortB cmp l -> c ∉ l -> SortB cmp (insB cmp l c)
 | [], _, _ => List.pairwise_singleton _ _
 | x :: l, hs, hc => by
  obtain ⟨h1, h2⟩ := List.pairwise_cons.1 hs
  rw [ins_cons]
  split
  ·rename_i hx
   refine List.pairwise_cons.2 ⟨fun y hy => ?_, ins_sort ho c h2 fun h => hc (List.mem_cons_of_mem _ h)⟩
   rcases (ins_mem _ _ _).1 hy with hy | rfl
   ·exact h1 y hy
   ·exact hx
  ·rename_i hx
   have hcx : cmp c x < 0 := by
    have e := ho.anti c x
    have hne : cmp x c ≠ 0 := fun h => hc (by rw [(ho.zero x c).1 h]; exact List.mem_cons_self ..)
    omega
   refine List.pairwise_cons.2 ⟨fun y hy => ?_, hs⟩
   rcases List.mem_cons.1 hy with rfl | hy
   ·exact hcx
   ·exact ho.trans _ _ _ hcx (h1 y hy)
end
section
variable {α β : Type} [DecidableEq β] {val : α -> β} {cmp : β -> β -> Int}
theorem add_sort (ho : OrdB cmp) {F : FamB α β} (k : Nat) (h : SortB cmp F.known) (x : ResB α) : SortB cmp (addB val (insB cmp) F k x).1.known := by
 unfold addB
 split
 ·exact h
 ·exact h
 ·split
  ·exact h
  ·split
   ·exact h
   ·rename_i hn _
    exact ins_sort ho _ h hn
end
theorem ordI_turn (a b : Int) : ordI a b = - ordI b a := by unfold ordI; split <;> split <;> omega
theorem ordI_neg {a b : Int} : ordI a b < 0 ↔ a < b := by unfold ordI; split <;> (try split) <;> omega
mutual
theorem cmpV_turn : ∀ (a b : CV), cmpV a b = - cmpV b a
 | .mk n k, .mk m l => by
  by_cases h : n = m
  ·by_cases h2 : k.length = l.length
   ·have a : cmpV (.mk n k) (.mk m l) = cmpVs k l := by rw [cmpV, if_neg (fun h' => h' h), if_neg (fun h' => h' h2)]
    have b : cmpV (.mk m l) (.mk n k) = cmpVs l k := by rw [cmpV, if_neg (fun h' => h' h.symm), if_neg (fun h' => h' h2.symm)]
    rw [a, b, cmpVs_turn k l]
   ·have a : cmpV (.mk n k) (.mk m l) = ordI k.length l.length := by rw [cmpV, if_neg (fun h' => h' h), if_pos h2]
    have b : cmpV (.mk m l) (.mk n k) = ordI l.length k.length := by rw [cmpV, if_neg (fun h' => h' h.symm), if_pos (fun e => h2 e.symm)]
    rw [a, b, ordI_turn]
  ·have a : cmpV (.mk n k) (.mk m l) = ordI n m := by rw [cmpV, if_pos h]
   have b : cmpV (.mk m l) (.mk n k) = ordI m n := by rw [cmpV, if_pos (fun e => h e.symm)]
   rw [a, b, ordI_turn]
theorem cmpVs_turn : ∀ (k l : List CV), cmpVs k l = - cmpVs l k
 | [], [] => by simp [cmpVs]
 | [], _ :: _ => by simp [cmpVs]
 | _ :: _, [] => by simp [cmpVs]
 | x :: k, y :: l => by
  have h1 := cmpV_turn x y
  have h2 := cmpVs_turn k l
  rw [cmpVs, cmpVs]
  by_cases h : cmpV x y = 0
  ·rw [if_neg (fun h' => h' h), if_neg (fun h' => h' (by omega)), h2]
  ·rw [if_pos h, if_pos (by omega), h1]
end
theorem cmpV_neg {n m : Int} {k l : List CV} : cmpV (.mk n k) (.mk m l) < 0 ↔ n < m \/ n = m /\ (k.length < l.length \/ k.length = l.length /\ cmpVs k l < 0) := by
 rw [cmpV]
 by_cases h : n = m
 ·rw [if_neg (fun h' => h' h)]
  by_cases h2 : k.length = l.length
  ·rw [if_neg (fun h' => h' h2)]
   constructor
   ·intro h3; exact .inr ⟨h, .inr ⟨h2, h3⟩⟩
   ·rintro (h3 | ⟨_, h3 | ⟨_, h3⟩⟩)
    ·omega
    ·omega
    ·exact h3
  ·rw [if_pos h2, ordI_neg]
   constructor
   ·intro h3; exact .inr ⟨h, .inl (by omega)⟩
   ·rintro (h3 | ⟨_, h3 | ⟨h3, _⟩⟩)
    ·omega
    ·omega
    ·exact absurd h3 h2
 ·rw [if_pos h, ordI_neg]
  constructor
  ·intro h3; exact .inl h3
  ·rintro (h3 | ⟨h3, _⟩)
   ·exact h3
   ·exact absurd h3 h
theorem cmpVs_neg {x y : CV} {k l : List CV} : cmpVs (x :: k) (y :: l) < 0 ↔ cmpV x y < 0 \/ cmpV x y = 0 /\ cmpVs k l < 0 := by
 rw [cmpVs]
 by_cases h : cmpV x y = 0
 ·rw [if_neg (fun h' => h' h)]
  constructor
  ·intro h3; exact .inr ⟨h, h3⟩
  ·rintro (h3 | ⟨_, h3⟩)
   ·omega
   ·exact h3
 ·rw [if_pos h]
  constructor
  ·intro h3; exact .inl h3
  ·rintro (h3 | ⟨h3, _⟩)
   ·exact h3
   ·exact absurd h3 h
mutual
theorem cmpV_next : ∀ (a b c : CV), cmpV a b < 0 -> cmpV b c < 0 -> cmpV a c < 0
 | .mk n k, .mk m l, .mk o p, h1, h2 => by
  rw [cmpV_neg] at h1 h2 ⊢
  have hs : cmpVs k l < 0 -> cmpVs l p < 0 -> cmpVs k p < 0 := cmpVs_next k l p
  rcases h1 with h1 | ⟨e1, h1⟩
  ·exact .inl (by rcases h2 with h2 | ⟨e2, _⟩ <;> omega)
  ·rcases h2 with h2 | ⟨e2, h2⟩
   ·exact .inl (by omega)
   ·refine .inr ⟨by omega, ?_⟩
    rcases h1 with h1 | ⟨l1, h1⟩
    ·exact .inl (by rcases h2 with h2 | ⟨l2, _⟩ <;> omega)
    ·rcases h2 with h2 | ⟨l2, h2⟩
     ·exact .inl (by omega)
     ·exact .inr ⟨by omega, hs h1 h2⟩
theorem cmpVs_next : ∀ (k l p : List CV), cmpVs k l < 0 -> cmpVs l p < 0 -> cmpVs k p < 0
 | [], [], _, h, _ => by rw [cmpVs] at h; omega
 | [], _ :: _, [], _, h => by rw [cmpVs] at h; omega
 | [], _ :: _, _ :: _, _, _ => by rw [cmpVs]; omega
 | _ :: _, [], _, h, _ => by rw [cmpVs] at h; omega
 | _ :: _, _ :: _, [], _, h => by rw [cmpVs] at h; omega
 | x :: k, y :: l, z :: p, h1, h2 => by
  rw [cmpVs_neg] at h1 h2 ⊢
  have hx := cmpV_next x y z
  have hk := cmpVs_next k l p
  rcases h1 with h1 | ⟨e1, h1⟩
  ·rcases h2 with h2 | ⟨e2, _⟩
   ·exact .inl (hx h1 h2)
   ·rw [(cmpV_zero y z).1 e2] at h1; exact .inl h1
  ·rw [(cmpV_zero x y).1 e1]
   rcases h2 with h2 | ⟨e2, h2⟩
   ·exact .inl h2
   ·exact .inr ⟨e2, hk h1 h2⟩
end
theorem ordV : OrdB cmpV := ⟨cmpV_zero, cmpV_turn, cmpV_next⟩
end Go.AM
namespace Go.AM
open Go.RowKit
variable {P : Program}
def CallYF (P : Program) (f : AV) (args : List AV) (d : Nat) (σ : St) (K : St -> Prop) : Prop :=
 match f with
 | .fn fid caps => CallY P fid (args ++ caps) d σ K
 | _ => False
@[congr] theorem CallYF_congr {f f' : AV} {args args' : List AV} {d : Nat} {K : St -> Prop} {σ σ' : St} (h0 : mkd f = f') (h1 : args = args') (h : σ = σ') : CallYF P f args d σ K = CallYF P f' args' d σ' K := by subst_vars; rfl
@[go_sem] theorem CallYF_fn {f : FuncId} {caps args : List AV} {d : Nat} {σ : St} {K : St -> Prop} : CallYF P (.fn f caps) args d σ K = CallY P f (args ++ caps) d σ K := rfl
@[go_sem] theorem headOp_callF {d : Nat} {T : TypeId} {pos : String} {af : Array Edge} {g : Option (Nat × Bool)} {n : Nat} {t : List (Nat × AV)} {b : List (List AV)} {K : St -> Prop} {f : Tmp} {args : List Operand} {As : Array TypeId} : headOp P ⟨some d, .call ⟨.value (.tmp f), args.toArray, As⟩, T, pos, af, g⟩ ⟨n, t, b⟩ K = andK (d < n) (CallYF P (lookT t f) (evAll ⟨n, t, b⟩ args) d ⟨n, t, b⟩ K) := by
 simp only [headOp, andK, St.ev, St.get, evAll_eq, CallYF]; rfl
end Go.AM
namespace Go.AM
open Go Go.Proofs Go.RowKit
set_option maxRecDepth 100000
set_option maxHeartbeats 8000000
instance : DecidableEq CV := fun a b => decidable_of_iff (cmpV a b = 0) (cmpV_zero a b)
theorem con_bsearch (l : List CV) (c : CV) (hs : SortB cmpV l) (hl : l.length <= 1000000) (hok : ∀ x ∈ l, x.Ok) (hc : c.Ok) :
  Con Tryz.prog 114 [.sl 0 2 (l.map vV), vV c, .fn 115 []] [] fun r _ => r = .tup [vi (posB cmpV c l : Nat), vb (decide (c ∈ l))] := by
 have hcm : ∀ x ∈ l, Con Tryz.prog 115 [vV x, vV c] [] fun r _ => r = vi (cmpV x c) := fun x hx => con_compare _ x c (Nat.le_refl _) (hok x hx) hc
 have hpl := pos_le (cmp := cmpV) c l
 have hth := pos_there (cmp := cmpV) ordV (c := c) hs
 have hlt := fun {h : Nat} (hh : h < l.length) => pos_lt' (cmp := cmpV) ordV c hs hh
 generalize posB cmpV c l = P at *
 rw [vV_eq c] at *
 refine Con.intro Tryz.func114 rfl Tryz.ntmps114 Tryz.results114 (by kernel_rfl) (by simp) 0 (by simp) ?_
 simp only [go_sem]
 refine LoopK.intro (fun p : Nat × Nat => ⟨49, [(0, .sl 0 2 (l.map vV)), (2, .fn 115 []), (4, .pb 0 0), (8, vi l.length), (9, vi p.1), (10, vi p.2)], [[vi c.n, .sl 0 2 (c.kids.map vV)]]⟩)
  (fun p => p.2 - p.1) (fun p => p.1 <= P /\ P <= p.2 /\ p.2 <= l.length) (0, l.length) ⟨by show 0 <= P; omega, hpl, Nat.le_refl _⟩ ?_ ?_
 ·simp only [go_sem]
  all_goals exact leB_self _
 rintro ⟨i, j⟩ ⟨h1, h2, h3⟩
 simp only at h1 h2 h3
 by_cases h : i < j
 ·have hh : (i + j) / 2 < l.length := by omega
  have hg := getvV hh
  have hcx := hcm _ (mem_bang hh)
  have hpx := hlt hh
  obtain ⟨q, hq⟩ : ∃ q, q = (i + j) / 2 := ⟨_, rfl⟩
  rw [<- hq] at hh hg hcx hpx
  have hwa : IntKind.i64.wrap ((i : Int) + (j : Int)) = (i : Int) + (j : Int) := wrap_in (by omega) (by omega)
  have hu : IntKind.u64.wrap ((i : Int) + (j : Int)) = (i : Int) + (j : Int) := by rw [IntKind.wrap_u64]; omega
  have hw1 : IntKind.i64.wrap ((IntKind.u64.wrap ((i : Int) + (j : Int))).fdiv (2 ^ min 1 64)) = (q : Nat) := by
   have e : (2 : Int) ^ min 1 64 = 2 := rfl
   rw [hu, e, Int.fdiv_eq_ediv_of_nonneg _ (by omega), wrap_in (by omega) (by omega)]; omega
  have hw2 : IntKind.i64.wrap ((q : Int) + 1) = ((q + 1 : Nat) : Int) := by rw [wrap_in (by omega) (by omega)]; omega
  simp only [go_sem, h, hwa, hw1]
  refine DrawK.walk 8 mixed (by kernel_rfl) ?_
  simp only [go_sem, hh, hg, List.length_map]
  refine CallY.mk hcx (by simp only [go_sem, vV_eq]) (by simp only [go_sem]) (.inl (by simp only [go_sem])) ?_
  by_cases hlt0 : cmpV l[q]! c < 0
  ·simp only [go_sem, hlt0, hw2]
   refine roundK.intro (q + 1, j) ⟨by have := hpx.1 hlt0; show q + 1 <= P; omega, h2, h3⟩ (by show j - (q + 1) < j - i; omega) ?_
   simp only [go_sem]
   all_goals exact leB_self _
  ·simp only [go_sem, hlt0]
   refine roundK.intro (i, q) ⟨h1, by show P <= q; exact Classical.byContradiction fun hn => hlt0 (hpx.2 (by omega)), by show q <= l.length; omega⟩ (by show q - i < j - i; omega) ?_
   simp only [go_sem]
   all_goals exact leB_self _
 ·obtain rfl : i = j := by omega
  obtain rfl : i = P := by omega
  by_cases h4 : i < l.length
  ·have hg := getvV h4
   have hcx := hcm _ (mem_bang h4)
   simp only [go_sem, h]
   refine DrawK.walk 15 mixed (by kernel_rfl) ?_
   simp only [go_sem, h4, hg, List.length_map]
   refine CallY.mk hcx (by simp only [go_sem, vV_eq]) (by simp only [go_sem]) (.inl (by simp only [go_sem])) ?_
   by_cases h5 : cmpV l[i]! c = 0
   ·have h5' : (cmpV l[i]! c == 0) = true := beq_iff_eq.2 h5
    have e : decide (c ∈ l) = true := decide_eq_true (hth.1 ⟨h4, h5⟩)
    simp only [go_sem, h5', e]
   ·have h5' : (cmpV l[i]! c == 0) = false := beq_eq_false_iff_ne.2 h5
    have e : decide (c ∈ l) = false := decide_eq_false (fun hm => h5 (hth.2 hm).2)
    simp only [go_sem, h5', e]
  ·have e : decide (c ∈ l) = false := decide_eq_false (fun hm => h4 (hth.2 hm).1)
   simp only [go_sem, h]
   refine DrawK.walk 15 mixed (by kernel_rfl) ?_
   simp only [go_sem, h4, e]
end Go.AM
namespace Go.AM
open Go Go.RowKit
theorem run_copy_rowN {P : Program} (w : World) (dT sT ty elem : TypeId) (g o dLen dCap : Nat) (a : Addr) (sLen sCap : Nat) (cur : Array Value) (t : TypeId) (cs : List Value) (k : Nat)
  (hu : P.underlying dT = some (.slice elem)) (hs : (P.info? elem).map (·.size) = some k)
  (hg : w.heap[g]? = some (.cells cur t (0, 0))) (hn : cs.length = Nat.min sLen dLen * k)
  (hsrc : ∀ j v, cs[j]? = some v -> w.cell? (a.add j) = some v) (hfit : o + cs.length <= cur.size) (h1 : ∀ v ∈ cs, v.oneCell' = true) :
  (Builtin.copy_ #[dT, sT] ty #[.slice (some ⟨g, o, none⟩) dLen dCap, .slice (some a) sLen sCap]).run P w =
   .ok (goInt (Nat.min sLen dLen)) (w.setRow g (cur.toList.take o ++ cs ++ cur.toList.drop (o + cs.length)).toArray) := by
 have hl := run_loadCells_list (P := P) w a cs hsrc
 have hst := run_storeCells_at P g o t cs 0 cur w hg (by simpa using hfit) h1
 cases hq : P.info? elem with
 | none => simp [hq] at hs
 | some i =>
  have hi : i.size = k := by simpa [hq] using hs
  simp [Builtin.copy_, run_underlying hu, Builtin.lenOf, Builtin.firstCells, sizeOf, typeInfo, hq, hi, <- hn, hl, hst]
end Go.AM
set_option linter.unusedVariables false
namespace Go.AM
open Go Go.Proofs Go.RowKit Go.Lib
set_option maxRecDepth 100000
set_option maxHeartbeats 8000000
theorem wp_copy_runB {P : Program} (w : World) {o : Oper} {a : Act} {K : Act -> World -> Prop} {Q : Exit -> Act -> World -> Prop} (d s : Operand) (t t' : TypeId)
  (ho : o.op = .call { callee := .builtin .copy, args := #[d, s], argTypes := #[t, t'] }) (v u : Value) (hd : a.eval d = v) (hs : a.eval s = u) {v' : Value} {w' : World}
  (hr : (Builtin.copy_ #[t, t'] o.type #[v, u]).run P w = .ok v' w') (h : K (a.put o.dst v') w') : o.wp P a w K Q := by
 unfold Oper.wp execOp
 simp only [ho, resolve, invoke, builtin, Sem.run_bind, Sem.run_pure, Result.andThen_ok, List.map_toArray, List.map_cons, List.map_nil, hd, hs, hr]
 exact h
theorem wpList_copy_runB {P : Program} (w : World) {ops : Array Oper} {rest : List Oper} {o : Oper} {a : Act} {Q : Exit -> Act -> World -> Prop} (hgd : o.guard = none) (d s : Operand) (t t' : TypeId)
  (ho : o.op = .call { callee := .builtin .copy, args := #[d, s], argTypes := #[t, t'] }) (v u : Value) (hd : a.eval d = v) (hs : a.eval s = u) {v' : Value} {w' : World}
  (hr : (Builtin.copy_ #[t, t'] o.type #[v, u]).run P w = .ok v' w') (h : wpList P ops Q rest (a.put o.dst v') w') : wpList P ops Q (o :: rest) a w :=
 wpList_plain hgd fun _ hK => wp_copy_runB w d s t t' ho v u hd hs hr (hK _ _ h)
theorem step_copy_runB {P : Program} {ops : Array Oper} {o : Oper} {a : Act} {w : World} {K : Act -> World -> Prop} {Q : Exit -> Act -> World -> Prop} {E : Prop}
  (hg : o.guard = none) (d x : Operand) (dT sT : TypeId) (hop : o.op = Op.call { callee := Callee.builtin Builtin.copy, args := #[d, x], argTypes := #[dT, sT] })
  (v u : Value) (hd : a.eval d = v) (hx : a.eval x = u) {v' : Value} {w' : World} (hr : (Builtin.copy_ #[dT, sT] o.type #[v, u]).run P w = .ok v' w') (hK : K (a.put o.dst v') w') :
  if Region.wanted o (yielded ops a.tmps) = true then Oper.wp P o a w K Q else E := by
 have hw : Region.wanted o (yielded ops a.tmps) = true := by simp [Region.wanted, hg]
 rw [if_pos hw]
 exact wp_copy_runB w d x dT sT hop v u hd hx hr hK
def mvRowB (cur : Array Value) (n i : Nat) : Array Value := (cur.toList.take ((i + 1) * 2) ++ (cur.toList.take (n * 2)).drop (i * 2) ++ cur.toList.drop ((i + 1) * 2 + ((cur.toList.take (n * 2)).drop (i * 2)).length)).toArray
def putRowB (cur : Array Value) (i : Nat) (us : List Value) : Array Value := (cur.toList.take (i * 2) ++ us ++ cur.toList.drop (i * 2 + us.length)).toArray
theorem cell_row {w : World} {g : Nat} {cur : Array Value} {e : TypeId} (hg : w.heap[g]? = some (.cells cur e (0, 0))) {k : Nat} {v : Value} (h : cur[k]? = some v) : w.cell? ⟨g, k, none⟩ = some v := by
 simp [World.cell?, hg, h]
theorem addr_add (g o j : Nat) : (⟨g, o, none⟩ : Addr).add j = ⟨g, o + j, none⟩ := by unfold Addr.add; split <;> simp_all
theorem ins_room (g g2 n cap i c2 : Nat) (cur cur2 : Array Value) (e e2 : TypeId) (us : List Value) (w : World)
  (hg : w.heap[g]? = some (.cells cur e (0, 0))) (hg2 : w.heap[g2]? = some (.cells cur2 e2 (0, 0))) (hne : g2 ≠ g) (hcap : cur.size = cap * 2) (hc : n + 1 <= cap) (hm : cap <= maxLen) (hi : i < n)
  (hus : us.length = 2) (hu2 : ∀ (j : Nat) (u : Value), us[j]? = some u -> cur2[j]? = some u) (h1u : ∀ u ∈ us, u.oneCell' = true) (h1c : ∀ v ∈ cur.toList.take (n * 2), v.oneCell' = true) (hz2 : cur2.size ≠ 0) :
  Calls Tryz.prog 116 #[.slice (some ⟨g, 0, none⟩) n cap, .int .i64 i, .slice (some ⟨g2, 0, none⟩) 1 c2] w fun e' w' =>
   e' = .returned (.slice (some ⟨g, 0, none⟩) (n + 1) cap) /\ w' = (w.drew.setRow g (mvRowB cur n i)).setRow g (putRowB (mvRowB cur n i) i us) := by
 have u33 : Program.underlying Tryz.prog (33 : TypeId) = some (TypeDesc.slice (35 : TypeId)) := by kernel_rfl
 obtain ⟨ti, hti, hts, htb, htz⟩ := tinfo_some (show tinfo Tryz.prog 35 = some (2, 32, some (Value.agg (List.toArray [Value.int IntKind.i64 0, Value.slice none 0 0]))) by kernel_rfl)
 have hsz' : ∀ w, (Go.sizeOf 35).run Tryz.prog w = .ok 2 w := fun w => by simp [sizeOf, typeInfo, hti, hts]
 have hm63 : cap <= 9223372036854775807 := by unfold maxLen at hm; omega
 have mixed : Tryz.prog.follows .mixedOrders = true := by kernel_rfl
 have hz1 : ¬ ((i : Int) = (n : Int)) := by omega
 have hsa : w.shape? g2 = some (e2, cur2.size) := by simp [World.shape?, hg2]
 have hsb : w.shape? g = some (e, cur.size) := by simp [World.shape?, hg]
 have hov : ∀ lb cb, (callFunc 145 #[.slice (some ⟨g2, 0, none⟩) 1 c2, .slice (some ⟨g, (i + 1) * 2, none⟩) lb cb]).run Tryz.prog w = .ok (.value (.bool false)) w := fun lb cb => by
  rw [run_callFunc_extern (fn := Tryz.f145) (by kernel_rfl) (by kernel_rfl) (by kernel_rfl) (by kernel_rfl) (e := Extern.SlicesOverlaps.overlaps #[33, 33] #[4]) (by kernel_rfl),
   Lib.run_overlaps_apart w 33 4 35 u33 2 hsz' ⟨g2, 0, none⟩ ⟨g, (i + 1) * 2, none⟩ 1 c2 lb cb hne e2 e cur2.size cur.size hsa hsb (by omega) (by simp [World.frozen?, hg2]) (by simp [World.frozen?, hg2])]
  rfl
 have hcl : ((cur.toList.take (n * 2)).drop (i * 2)).length = (n - i) * 2 := by
  rw [List.length_drop, List.length_take, Array.length_toList, hcap, Nat.min_eq_left (by omega)]; omega
 have hw1 : IntKind.i64.wrap ((i : Int) + 1) = (i : Int) + 1 := by rw [IntKind.wrap_i64]; omega
 have hw2 : IntKind.i64.wrap ((n : Int) + 1) = (n : Int) + 1 := by rw [IntKind.wrap_i64]; omega
 have hb1 : (0 : Int) <= (i : Int) + 1 := by omega
 have hin : i <= n := by omega
 have htn : ((i : Int) + 1).toNat = i + 1 := by omega
 have htn2 : ((n : Int) + 1).toNat = n + 1 := by omega
 have hb2 : ¬ (cap = i + 1) := by omega
 have hb3 : (i : Int) <= (n : Int) + 1 := by omega
 have hb4 : ¬ (cap = i) := by omega
 have hb5 : (n : Int) + 1 <= (cap : Int) := by omega
 have hb6 : ¬ ((cap : Int) < (n : Int) + 1) := by omega
 go_enter Tryz.func116, Tryz.ntmps116
 have hgd : w.drew.heap[g]? = some (.cells cur e (0, 0)) := hg
 have hcp1 : ∀ ty dc sc, (Builtin.copy_ #[33, 33] ty #[.slice (some ⟨g, (i + 1) * 2, none⟩) (n - i) dc, .slice (some ⟨g, i * 2, none⟩) (n + 1 - i) sc]).run Tryz.prog w.drew = .ok (goInt (n - i : Nat)) (w.drew.setRow g (mvRowB cur n i)) := fun ty dc sc => by
  have hmin : Nat.min (n + 1 - i) (n - i) = n - i := Nat.min_eq_right (by omega)
  have := run_copy_rowN w.drew 33 33 ty 35 g ((i + 1) * 2) (n - i) dc ⟨g, i * 2, none⟩ (n + 1 - i) sc cur e ((cur.toList.take (n * 2)).drop (i * 2)) 2 u33 (by rw [hti]; simp [hts]) hgd (by rw [hmin, hcl])
   (fun j v hj => by
    rw [addr_add]
    refine cell_row hgd ?_
    rw [List.getElem?_drop, List.getElem?_take] at hj
    split at hj
    ·rw [<- Array.getElem?_toList]; exact hj
    ·cases hj) (by rw [hcl, hcap]; omega) (fun v hv => h1c v (List.mem_of_mem_drop hv))
  rw [hmin] at this
  exact this
 have hrs : (mvRowB cur n i).size = cap * 2 := by
  unfold mvRowB
  rw [List.size_toArray, List.length_append, List.length_append, hcl, List.length_take, List.length_drop, Array.length_toList, hcap, Nat.min_eq_left (by omega)]; omega
 have hgW : (w.drew.setRow g (mvRowB cur n i)).heap[g]? = some (.cells (mvRowB cur n i) e (0, 0)) := setRow_heap w.drew g cur _ e _ hgd
 have hg2W : (w.drew.setRow g (mvRowB cur n i)).heap[g2]? = some (.cells cur2 e2 (0, 0)) := by rw [heap_setRow_ne hne]; exact hg2
 have hcp2 : ∀ ty dc, (Builtin.copy_ #[33, 33] ty #[.slice (some ⟨g, i * 2, none⟩) (n + 1 - i) dc, .slice (some ⟨g2, 0, none⟩) 1 c2]).run Tryz.prog (w.drew.setRow g (mvRowB cur n i)) = .ok (goInt 1) ((w.drew.setRow g (mvRowB cur n i)).setRow g (putRowB (mvRowB cur n i) i us)) := fun ty dc => by
  have hmin : Nat.min 1 (n + 1 - i) = 1 := Nat.min_eq_left (by omega)
  have := run_copy_rowN (w.drew.setRow g (mvRowB cur n i)) 33 33 ty 35 g (i * 2) (n + 1 - i) dc ⟨g2, 0, none⟩ 1 c2 (mvRowB cur n i) e us 2 u33 (by rw [hti]; simp [hts]) hgW (by rw [hmin, hus])
   (fun j v hj => by
    rw [addr_add, Nat.zero_add]
    exact cell_row hg2W (hu2 j v hj)) (by rw [hus, hrs]; omega) h1u
  rw [hmin] at this
  exact this
 go_wp2_with (simp only [hov])
 go_region_law_o (refine step_copy_runB rfl _ _ 33 33 rfl _ _ (by simp [Act.eval, Act.put]) (by simp [Act.eval, Act.put]) (hcp1 _ _ _) ?_)
 go_wp2_with (refine wpList_copy_runB _ rfl _ _ 33 33 rfl _ _ rfl rfl (hcp2 _ _) ?_)
 go_ret
 exact ⟨rfl, rfl⟩
end Go.AM
set_option linter.unusedVariables false
namespace Go.AM
open Go Go.Proofs Go.RowKit Go.Lib
set_option maxRecDepth 100000
set_option maxHeartbeats 8000000
theorem zero_size (z : Value) (hz : z.cells.size = 2) (k : Nat) : (Builtin.zeroCells z.cells k).size = k * 2 := by
 simp [Builtin.zeroCells, hz]
theorem ins_grow (g g2 n cap i c2 : Nat) (cur cur2 : Array Value) (e e2 : TypeId) (us : List Value) (w : World)
  (hg : w.heap[g]? = some (.cells cur e (0, 0))) (hg2 : w.heap[g2]? = some (.cells cur2 e2 (0, 0))) (hcap : cur.size = cap * 2) (hnc : n <= cap) (hc : cap < n + 1) (hi : i < n) (hbig : n <= 1000000)
  (hus : us.length = 2) (hu2 : ∀ (j : Nat) (u : Value), us[j]? = some u -> cur2[j]? = some u) (h1u : ∀ u ∈ us, u.oneCell' = true) (h1c : ∀ v ∈ cur.toList.take (n * 2), v.oneCell' = true) :
  Calls Tryz.prog 116 #[.slice (some ⟨g, 0, none⟩) n cap, .int .i64 i, .slice (some ⟨g2, 0, none⟩) 1 c2] w fun e' w' =>
   ∃ (C : Nat) (row : Array Value), n + 1 <= C /\ C <= maxLen /\ row.size = C * 2 /\ row.toList.take ((n + 1) * 2) = cur.toList.take (i * 2) ++ us ++ (cur.toList.take (n * 2)).drop (i * 2) /\
    e' = .returned (.slice (some ⟨w.heap.size, 0, none⟩) (n + 1) C) /\ w'.heap[w.heap.size]? = some (.cells row 35 (0, 0)) /\ (∀ b, b < w.heap.size -> w'.heap[b]? = w.heap[b]?) /\
    w'.heap.size = w.heap.size + 1 /\ w'.os = w.os /\ w'.tape = w.tape /\ w'.output = w.output := by
 have u33 : Tryz.prog.underlying 33 = some (TypeDesc.slice 35) := by kernel_rfl
 have u3 : Tryz.prog.underlying 3 = some (TypeDesc.int .i64) := by kernel_rfl
 obtain ⟨ti, hti, hts, htb, htz⟩ := tinfo_some (show tinfo Tryz.prog 35 = some (2, 32, some (Value.agg (List.toArray [Value.int IntKind.i64 0, Value.slice none 0 0]))) by kernel_rfl)
 generalize hZ : (Value.agg (List.toArray [Value.int IntKind.i64 0, Value.slice none 0 0])) = Z at htz
 have hZc : Z.cells.size = 2 := by rw [<- hZ]; rfl
 have mixed : Tryz.prog.follows .mixedOrders = true := by kernel_rfl
 have hlt : g < w.heap.size := by
  rcases Nat.lt_or_ge g w.heap.size with h | h
  ·exact h
  ·simp [Array.getElem?_eq_none h] at hg
 have hlt2 : g2 < w.heap.size := by
  rcases Nat.lt_or_ge g2 w.heap.size with h | h
  ·exact h
  ·simp [Array.getElem?_eq_none h] at hg2
 have hz1 : ¬ ((i : Int) = (n : Int)) := by omega
 have hz3 : (cap : Int) < (n : Int) + 1 := by omega
 have hcl : ((cur.toList.take (n * 2)).drop (i * 2)).length = (n - i) * 2 := by
  rw [List.length_drop, List.length_take, Array.length_toList, hcap, Nat.min_eq_left (by omega)]; omega
 have hol : (cur.toList.take (i * 2)).length = i * 2 := by rw [List.length_take, Array.length_toList, hcap, Nat.min_eq_left (by omega)]
 have hgd : w.drew.heap[g]? = some (.cells cur e (0, 0)) := hg
 have hold : (Builtin.firstCells ti.size i (.slice (some ⟨g, 0, none⟩) i cap)).run Tryz.prog w.drew = .ok (cur.toList.take (i * 2)).toArray w.drew := by
  rw [hts]
  refine run_firstCells_some w.drew 2 i ⟨g, 0, none⟩ i cap (cur.toList.take (i * 2)) hol fun j v hj => ?_
  rw [addr_add, Nat.zero_add]
  refine cell_row hgd ?_
  rw [List.getElem?_take] at hj
  split at hj
  ·rw [<- Array.getElem?_toList]; exact hj
  ·cases hj
 have hkk : (n : Int) + 1 - (i : Int) = ((n + 1 - i : Nat) : Int) := by omega
 have hik : i + (n + 1 - i) = n + 1 := by omega
 obtain ⟨C, hC⟩ : ∃ C, C = grownCap w (n + 1) cap 35 := ⟨_, rfl⟩
 obtain ⟨ROW, hROW⟩ : ∃ ROW : Array Value, ROW = (cur.toList.take (i * 2)).toArray ++ Builtin.zeroCells Z.cells (n + 1 - i) ++ Builtin.zeroCells Z.cells (C - (n + 1)) := ⟨_, rfl⟩
 have hCn : n + 1 <= C := by rw [hC]; exact grownCap_ge w _ _ _
 have hCm : C <= maxLen := by rw [hC]; exact grownCap_le_maxLen w _ _ _ (by unfold maxLen; omega)
 have hC63 : C <= 9223372036854775807 := by unfold maxLen at hCm; omega
 have hrz : ∀ ty, (Builtin.append_ #[33, 3] ty #[.slice (some ⟨g, 0, none⟩) i cap, .int .i64 ((n : Int) + 1 - (i : Int))]).run Tryz.prog w =
   .ok (.slice (some ⟨w.heap.size, 0, none⟩) (n + 1) C) (w.drew.alloc (.cells ROW 35)) := fun ty => by
  have h := Lib.run_append_grow_zeros w 33 3 ty 35 ti Z .i64 .i64 u33 u3 hti htz (some ⟨g, 0, none⟩) i cap (cur.toList.take (i * 2)) hold (n + 1 - i) (by omega) (by omega) (by omega) (by omega) (by rw [htb]; omega) (by rw [htb, hik]; exact growslice_fits hc (by omega))
  rw [hik, <- hC, <- hROW] at h
  rw [hkk]
  exact h
 have hRs : ROW.size = C * 2 := by
  rw [hROW, Array.size_append, Array.size_append, List.size_toArray, hol, zero_size Z hZc, zero_size Z hZc]; omega
 have hRt : ROW.toList.take (i * 2) = cur.toList.take (i * 2) := by
  rw [hROW]
  simp only [Array.toList_append, List.append_assoc]
  rw [List.take_append_of_le_length (by simpa using Nat.le_of_eq hol.symm)]
  rw [List.take_of_length_le (by simpa using Nat.le_of_eq hol)]
 clear hROW
 have hsz0 : (Tryz.prog.info? 35).map (fun t => t.size) = some 2 := by rw [hti]; simp [hts]
 clear hkk hik hold hC htz hZ hts htb hti
 have hw1 : IntKind.i64.wrap ((i : Int) + 1) = (i : Int) + 1 := by rw [IntKind.wrap_i64]; omega
 have hw2 : IntKind.i64.wrap ((n : Int) + 1) = (n : Int) + 1 := by rw [IntKind.wrap_i64]; omega
 have hw3 : IntKind.i64.wrap ((n : Int) + 1 - (i : Int)) = (n : Int) + 1 - (i : Int) := by rw [IntKind.wrap_i64]; omega
 have hb1 : (0 : Int) <= (i : Int) + 1 := by omega
 have hin : i <= n := by omega
 have htn : ((i : Int) + 1).toNat = i + 1 := by omega
 have hb2 : ¬ (C = i + 1) := by omega
 have hb3 : (i : Int) <= (n : Int) := by omega
 have hb4 : ¬ (C = i) := by omega
 have hb5 : ¬ (cap = i) := by omega
 obtain ⟨h, hh⟩ : ∃ h, w.heap.size = h := ⟨_, rfl⟩
 rw [hh] at hrz ⊢ hlt hlt2
 have hne : g ≠ h := by omega
 have hne2 : g2 ≠ h := by omega
 have hA : (w.alloc (.cells ROW 35)).drew.heap[h]? = some (.cells ROW 35 (0, 0)) := by rw [<- hh]; show (w.heap.push _)[w.heap.size]? = _; simp
 have hAb : ∀ b, b < h -> (w.alloc (.cells ROW 35)).drew.heap[b]? = w.heap[b]? := fun b hb => by
  show (w.heap.push _)[b]? = _
  rw [Array.getElem?_push, if_neg (by omega)]
 have hAg2 : (w.alloc (.cells ROW 35)).drew.heap[g2]? = some (.cells cur2 e2 (0, 0)) := by rw [hAb g2 hlt2]; exact hg2
 have hAg : (w.alloc (.cells ROW 35)).drew.heap[g]? = some (.cells cur e (0, 0)) := by rw [hAb g hlt]; exact hg
 obtain ⟨R1, hR1⟩ : ∃ R1, R1 = putRowB ROW i us := ⟨_, rfl⟩
 have hcpA : ∀ ty dc, (Builtin.copy_ #[33, 33] ty #[.slice (some ⟨h, i * 2, none⟩) (n + 1 - i) dc, .slice (some ⟨g2, 0, none⟩) 1 c2]).run Tryz.prog (w.alloc (.cells ROW 35)).drew = .ok (goInt 1) ((w.alloc (.cells ROW 35)).drew.setRow h R1) := fun ty dc => by
  have hmin : Nat.min 1 (n + 1 - i) = 1 := Nat.min_eq_left (by omega)
  have := run_copy_rowN (w.alloc (.cells ROW 35)).drew 33 33 ty 35 h (i * 2) (n + 1 - i) dc ⟨g2, 0, none⟩ 1 c2 ROW 35 us 2 u33 hsz0 hA (by rw [hmin, hus])
   (fun j v hj => by
    rw [addr_add, Nat.zero_add]
    exact cell_row hAg2 (hu2 j v hj)) (by rw [hus, hRs]; omega) h1u
  rw [hmin] at this
  rw [hR1]
  exact this
 have hR1s : R1.size = C * 2 := by
  rw [hR1]; unfold putRowB
  rw [List.size_toArray, List.length_append, List.length_append, hus, List.length_take, List.length_drop, Array.length_toList, hRs, Nat.min_eq_left (by omega)]; omega
 obtain ⟨R2, hR2⟩ : ∃ R2, R2 = (R1.toList.take ((i + 1) * 2) ++ (cur.toList.take (n * 2)).drop (i * 2) ++ R1.toList.drop ((i + 1) * 2 + ((cur.toList.take (n * 2)).drop (i * 2)).length)).toArray := ⟨_, rfl⟩
 have hcpB : ∀ (W : World), W.heap = ((w.alloc (.cells ROW 35)).drew.setRow h R1).heap -> ∀ ty dc sc, (Builtin.copy_ #[33, 33] ty #[.slice (some ⟨h, (i + 1) * 2, none⟩) (n - i) dc, .slice (some ⟨g, i * 2, none⟩) (n - i) sc]).run Tryz.prog W = .ok (goInt (n - i : Nat)) (W.setRow h R2) := fun W hW ty dc sc => by
  have hmin : Nat.min (n - i) (n - i) = n - i := Nat.min_self _
  have hWh : W.heap[h]? = some (.cells R1 35 (0, 0)) := by rw [hW]; exact setRow_heap _ h ROW _ 35 _ hA
  have hWg : W.heap[g]? = some (.cells cur e (0, 0)) := by rw [hW, heap_setRow_ne hne]; exact hAg
  have := run_copy_rowN W 33 33 ty 35 h ((i + 1) * 2) (n - i) dc ⟨g, i * 2, none⟩ (n - i) sc R1 35 ((cur.toList.take (n * 2)).drop (i * 2)) 2 u33 hsz0 hWh (by rw [hmin, hcl])
   (fun j v hj => by
    rw [addr_add]
    refine cell_row hWg ?_
    rw [List.getElem?_drop, List.getElem?_take] at hj
    split at hj
    ·rw [<- Array.getElem?_toList]; exact hj
    ·cases hj) (by rw [hcl, hR1s]; omega) (fun v hv => h1c v (List.mem_of_mem_drop hv))
  rw [hmin] at this
  rw [hR2]
  exact this
 have hR1t : R1.toList.take ((i + 1) * 2) = cur.toList.take (i * 2) ++ us := by
  rw [hR1]; unfold putRowB
  rw [hRt]
  simp only []
  rw [List.take_append_of_le_length (by rw [List.length_append, hol, hus]; omega), List.take_of_length_le (by rw [List.length_append, hol, hus]; omega)]
 have hR2s : R2.size = C * 2 := by
  rw [hR2, List.size_toArray, List.length_append, List.length_append, hcl, List.length_take, List.length_drop, Array.length_toList, hR1s, Nat.min_eq_left (by omega)]; omega
 have hR2t : R2.toList.take ((n + 1) * 2) = cur.toList.take (i * 2) ++ us ++ (cur.toList.take (n * 2)).drop (i * 2) := by
  rw [hR2, hR1t]
  simp only []
  rw [List.take_append_of_le_length (by rw [List.length_append, List.length_append, hol, hus, hcl]; omega), List.take_of_length_le (by rw [List.length_append, List.length_append, hol, hus, hcl]; omega)]
 have hF : ∀ W, W = ((w.alloc (.cells ROW 35)).drew.setRow h R1).drew.setRow h R2 -> W.heap[h]? = some (.cells R2 35 (0, 0)) /\ (∀ b, b < h -> W.heap[b]? = w.heap[b]?) /\ W.heap.size = h + 1 /\ W.os = w.os /\ W.tape = w.tape /\ W.output = w.output := fun W hW => by
  rw [hW]
  refine ⟨setRow_heap _ h R1 _ 35 _ (setRow_heap _ h ROW _ 35 _ hA), fun b hb => ?_, ?_, rfl, rfl, rfl⟩
  ·rw [heap_setRow_ne (by omega)]
   show ((w.alloc (.cells ROW 35)).drew.setRow h R1).heap[b]? = _
   rw [heap_setRow_ne (by omega)]
   exact hAb b hb
  ·have : (w.heap.push (.cells ROW 35)).size = h + 1 := by rw [Array.size_push, hh]
   simpa [World.setRow] using this
 clear hRt hR1 hR2 hol hcl hsz0 hA hAb hAg2 hAg
 go_enter Tryz.func116, Tryz.ntmps116
 go_wp2_with (first
  | (at_builtin; refine Lib.wpList_append_run _ rfl _ _ _ _ rfl _ _ rfl rfl _ _ (hrz _) ?_)
  | (refine wpList_copy_runB _ rfl _ _ 33 33 rfl _ _ rfl rfl (hcpA _ _) ?_))
 go_region_law_o (refine step_copy_runB rfl _ _ 33 33 rfl (.slice (some ⟨h, (i + 1) * 2, none⟩) (n - i) (C - (i + 1))) (.slice (some ⟨g, i * 2, none⟩) (n - i) (cap - i)) (by simp [Act.eval, Act.put]) (by simp [Act.eval, Act.put]) (hcpB ((w.alloc (.cells ROW 35)).drew.setRow h R1).drew rfl 3 (C - (i + 1)) (cap - i)) ?_)
 go_wp2
 go_ret
 exact ⟨C, R2, hCn, hCm, hR2s, hR2t, rfl, hF _ rfl⟩
end Go.AM
namespace Go.AM
open Go Go.Proofs Go.RowKit
theorem own_row {G : Nat -> Status} {w : World} {t : Nat} {xs : List AV} {v : Value} (h : VRel G w (.sl t 2 xs) v) (ht : 2 <= t) (h0 : 0 < xs.length) :
  ∃ g cap cur e, v = .slice (some ⟨g, 0, none⟩) xs.length cap /\ G g = .tag t /\ w.heap[g]? = some (.cells cur e (0, 0)) /\ xs.length <= cap /\ cap <= maxLen /\ cur.size = cap * 2 /\
   (∀ x ∈ xs, x.cells.length = 2) /\ One (cur.toList.take (xs.length * 2)) /\ PW (FRel (Stable G) w) (flat xs) (cur.toList.take (xs.length * 2)) := by
 cases h with
 | froz h => exfalso; cases h <;> omega
 | own _ _ _ _ e vals _ h2 h3 h4 h5 h6 =>
  rcases h2.2 with ⟨_, hz⟩ | ⟨g, cap, cur, hv, _, hh, hn, hc, hs, ht⟩
  ·omega
  ·subst ht
   exact ⟨g, cap, cur, e, hv, h3 g (by rw [hv]; rfl), hh, hn, hc, hs, h4, h5, h6⟩
theorem flat_app' (xs ys : List AV) : flat (xs ++ ys) = flat xs ++ flat ys := by unfold flat; rw [List.flatMap_append]
theorem pw_ins {R : AV -> Value -> Prop} {xs : List AV} {vals us : List Value} {y : AV} {i : Nat} (hx : ∀ x ∈ xs, x.cells.length = 2) (h : PW R (flat xs) vals) (hy : PW R (flat [y]) us) :
  PW R (flat (xs.take i ++ y :: xs.drop i)) (vals.take (i * 2) ++ us ++ vals.drop (i * 2)) := by
 have e : xs.take i ++ y :: xs.drop i = xs.take i ++ [y] ++ xs.drop i := by simp
 rw [e, flat_app', flat_app', flat_take i hx, flat_drop i hx]
 exact ((h.take _).append hy).append (h.drop _)
theorem seg_put {H T R X us : List Value} {i n : Nat} (hH : H.length = i * 2 + 2) (hX : H.take (i * 2) = X) (hXl : X.length = i * 2) (hu : us.length = 2) (hT : T.length = (n - i) * 2) (hi : i < n) :
  ((H ++ T ++ R).take (i * 2) ++ us ++ (H ++ T ++ R).drop (i * 2 + 2)).take ((n + 1) * 2) = X ++ us ++ T /\ ((H ++ T ++ R).take (i * 2) ++ us ++ (H ++ T ++ R).drop (i * 2 + 2)).length = (n + 1) * 2 + R.length := by
 have a : (H ++ T ++ R).take (i * 2) = X := by rw [List.append_assoc, List.take_append_of_le_length (by omega), hX]
 have b : (H ++ T ++ R).drop (i * 2 + 2) = T ++ R := by rw [List.append_assoc, <- hH, List.drop_left]
 have c : (X ++ us ++ T).length = (n + 1) * 2 := by simp only [List.length_append]; omega
 rw [a, b, <- List.append_assoc]
 exact ⟨by rw [<- c, List.take_left], by rw [List.length_append, c]⟩
theorem put_take {cur : Array Value} {n i cap : Nat} {us : List Value} (hs : cur.size = cap * 2) (hi : i < n) (hc : n + 1 <= cap) (hus : us.length = 2) :
  (putRowB (mvRowB cur n i) i us).toList.take ((n + 1) * 2) = (cur.toList.take (n * 2)).take (i * 2) ++ us ++ (cur.toList.take (n * 2)).drop (i * 2) /\ (putRowB (mvRowB cur n i) i us).size = cap * 2 := by
 have hl : cur.toList.length = cap * 2 := by rw [Array.length_toList, hs]
 have hcl : ((cur.toList.take (n * 2)).drop (i * 2)).length = (n - i) * 2 := by
  rw [List.length_drop, List.length_take, hl, Nat.min_eq_left (by omega)]; omega
 have h1 : (cur.toList.take ((i + 1) * 2)).length = i * 2 + 2 := by rw [List.length_take, hl, Nat.min_eq_left (by omega)]; omega
 have h2 : (cur.toList.take ((i + 1) * 2)).take (i * 2) = (cur.toList.take (n * 2)).take (i * 2) := by
  rw [List.take_take, List.take_take, Nat.min_eq_left (by omega), Nat.min_eq_left (by omega)]
 have h3 : ((cur.toList.take (n * 2)).take (i * 2)).length = i * 2 := by rw [List.length_take, List.length_take, hl]; omega
 obtain ⟨k1, k2⟩ := seg_put (R := cur.toList.drop ((i + 1) * 2 + ((cur.toList.take (n * 2)).drop (i * 2)).length)) h1 h2 h3 hus hcl hi
 have hR : (cur.toList.drop ((i + 1) * 2 + ((cur.toList.take (n * 2)).drop (i * 2)).length)).length = cap * 2 - (n + 1) * 2 := by rw [hcl, List.length_drop, hl]; omega
 rw [hR] at k2
 unfold putRowB mvRowB
 rw [hus]
 refine ⟨k1, ?_⟩
 rw [List.size_toArray]
 refine k2.trans ?_
 omega
theorem setRow_size (w : World) (g : Nat) (cs : Array Value) : (w.setRow g cs).heap.size = w.heap.size := by simp [World.setRow]
theorem con_insert_mid (xs : List AV) (y : AV) (i : Nat) (hi : i < xs.length) (hn : xs.length <= 1000000) :
  ConC Tryz.prog 116 [.sl 2 2 xs, .sc (.int .i64 i), .sl 3 2 [y]] fun r => r = .sl 2 2 (xs.take i ++ y :: xs.drop i) := by
 refine ⟨⟨Tryz.f116, by kernel_rfl, by kernel_rfl, by kernel_rfl⟩, fun G w vs hgood hnb hv => ?_⟩
 obtain ⟨v1, r1, e1, h1, h1'⟩ := hv.cons_inv
 obtain ⟨v2, r2, e2, h2, h2'⟩ := h1'.cons_inv
 obtain ⟨v3, r3, e3, h3, h3'⟩ := h2'.cons_inv
 have := h3'.nil_inv
 subst this; subst e3; subst e2
 have := h2.sc_inv
 subst this
 obtain ⟨g, cap, cur, e, rfl, hGg, hh, hnc, hm, hs, hx, h1c, hP⟩ := own_row h1 (by omega) (by omega)
 obtain ⟨g2, cap2, cur2, e', rfl, hGg2, hh2, hnc2, hm2, hs2, hy, h1u, hPy⟩ := own_row h3 (by omega) (by simp)
 have hvs : vs = #[.slice (some ⟨g, 0, none⟩) xs.length cap, .int .i64 i, .slice (some ⟨g2, 0, none⟩) 1 cap2] := by cases vs; simp_all
 subst hvs
 have hne : g2 ≠ g := fun h => by subst h; rw [hGg] at hGg2; injection hGg2 with h; omega
 have hc2 : 1 <= cap2 := hnc2
 have hl1 : cur.toList.length = cap * 2 := by rw [Array.length_toList, hs]
 have hl2 : cur2.toList.length = cap2 * 2 := by rw [Array.length_toList, hs2]
 have hus : (cur2.toList.take ([y].length * 2)).length = 2 := by rw [List.length_take, hl2]; show min (1 * 2) _ = 2; omega
 have hu2 : ∀ (j : Nat) (u : Value), (cur2.toList.take ([y].length * 2))[j]? = some u -> cur2[j]? = some u := fun j u hj => by
  rw [List.getElem?_take] at hj
  split at hj
  ·rw [<- Array.getElem?_toList]; exact hj
  ·cases hj
 have hlt : g < w.heap.size := by
  rcases Nat.lt_or_ge g w.heap.size with h | h
  ·exact h
  ·simp [Array.getElem?_eq_none h] at hh
 have hxs : ∀ x ∈ xs.take i ++ y :: xs.drop i, x.cells.length = 2 := fun x hx' => by
  rcases List.mem_append.1 hx' with h | h
  ·exact hx x (List.mem_of_mem_take h)
  ·rcases List.mem_cons.1 h with rfl | h
   ·exact hy x (by simp)
   ·exact hx x (List.mem_of_mem_drop h)
 have hlen : (xs.take i ++ y :: xs.drop i).length = xs.length + 1 := by simp; omega
 have hpw := pw_ins (i := i) hx hP hPy
 have hone : One ((cur.toList.take (xs.length * 2)).take (i * 2) ++ cur2.toList.take ([y].length * 2) ++ (cur.toList.take (xs.length * 2)).drop (i * 2)) := fun u hu => by
  rcases List.mem_append.1 hu with hu | hu
  ·rcases List.mem_append.1 hu with hu | hu
   ·exact h1c u (List.mem_of_mem_take hu)
   ·exact h1u u hu
  ·exact h1c u (List.mem_of_mem_drop hu)
 have hlv : ((cur.toList.take (xs.length * 2)).take (i * 2) ++ cur2.toList.take ([y].length * 2) ++ (cur.toList.take (xs.length * 2)).drop (i * 2)).length = (xs.length + 1) * 2 := by
  rw [List.length_append, List.length_append, hus, List.length_take, List.length_drop, List.length_take, hl1]; omega
 by_cases hroom : xs.length + 1 <= cap
 ·have hpt := put_take (us := cur2.toList.take ([y].length * 2)) hs hi hroom hus
  refine (ins_room g g2 xs.length cap i cap2 cur cur2 e e' (cur2.toList.take ([y].length * 2)) w hh hh2 hne hs hroom hm hi hus hu2 h1u h1c (by omega)).mono fun e1 w' ⟨he, hw⟩ => ?_
  have hb : ∀ b, b ≠ g -> w'.heap[b]? = w.heap[b]? := fun b hb => by rw [hw, heap_setRow_ne hb, heap_setRow_ne hb]; rfl
  have hbg : w'.heap[g]? = some (.cells (putRowB (mvRowB cur xs.length i) i (cur2.toList.take ([y].length * 2))) e (0, 0)) := by
   rw [hw]; exact setRow_heap _ g _ _ e _ (setRow_heap w.drew g cur _ e _ hh)
  have hsz : w'.heap.size = w.heap.size := by rw [hw, setRow_size, setRow_size]; rfl
  refine ⟨_, _, G, he, rfl, ?_, ⟨fun b hb' => by rw [hsz]; exact hgood.lt b hb', hgood.tags, hgood.boxes⟩, hnb, by rw [hw]; rfl, by rw [hw]; rfl, by rw [hw]; rfl, by omega, fun _ _ _ => rfl, fun b _ hn' => hb b fun h => by subst h; exact hn' 2 hGg⟩
  refine .own 2 2 _ _ e _ (by omega) ⟨?_, .inr ⟨g, cap, _, by rw [hlen], Nat.zero_le _, hbg, by rw [hlen]; exact hroom, hm, hpt.2, by rw [hlen]; exact hpt.1⟩⟩ (fun b hb' => by simp only [Value.ownBlock, Option.some.injEq] at hb'; rw [<- hb']; exact hGg) hxs hone ?_
  ·rw [hlv, hlen]
  ·refine hpw.mono fun x v _ hf => hf.mono (fun _ h => h) fun b hb' => hb b fun h => ?_
   subst h
   unfold Stable at hb'
   rw [hGg] at hb'; cases hb'
 ·refine (ins_grow g g2 xs.length cap i cap2 cur cur2 e e' (cur2.toList.take ([y].length * 2)) w hh hh2 hs hnc (by omega) hi hn hus hu2 h1u h1c).mono fun e1 w' ⟨C, row, hC1, hC2, hrs, hrt, he, hw1, hw2, hw3, hw4, hw5, hw6⟩ => ?_
  have hnl : ∀ {b}, b < w.heap.size -> b ≠ w.heap.size := fun h => by omega
  obtain ⟨G', hG'⟩ : ∃ G' : Nat -> Status, G' = fun b => if b = w.heap.size then .tag 2 else if G b = .tag 2 then .junk else G b := ⟨_, rfl⟩
  have hnew : G' w.heap.size = .tag 2 := by rw [hG']; simp
  have hold : ∀ b, b ≠ w.heap.size -> G b ≠ .tag 2 -> G' b = G b := fun b h1 h2 => by rw [hG']; simp [h1, h2]
  have hgone : ∀ b, b ≠ w.heap.size -> G b = .tag 2 -> G' b = .junk := fun b h1 h2 => by rw [hG']; simp [h1, h2]
  have hst : ∀ b, Stable G b -> Stable G' b := fun b h => by
   unfold Stable at *
   rw [hold b (hnl (hgood.lt b (by rw [h]; simp))) (by rw [h]; simp), h]
  have htg : ∀ b t, G' b = .tag t -> b = w.heap.size /\ t = 2 \/ b ≠ w.heap.size /\ t ≠ 2 /\ G b = .tag t := fun b t h => by
   by_cases hb : b = w.heap.size
   ·subst hb; rw [hnew] at h; injection h with h; exact .inl ⟨rfl, h.symm⟩
   ·by_cases h2 : G b = .tag 2
    ·rw [hgone b hb h2] at h; cases h
    ·rw [hold b hb h2] at h
     exact .inr ⟨hb, fun ht => h2 (by rw [h, ht]), h⟩
  have hbx : ∀ b i, G' b ≠ .box i := fun b i h => by
   by_cases hb : b = w.heap.size
   ·subst hb; rw [hnew] at h; cases h
   ·by_cases h2 : G b = .tag 2
    ·rw [hgone b hb h2] at h; cases h
    ·rw [hold b hb h2] at h; exact hnb b i h
  refine ⟨_, _, G', he, rfl, ?_, ⟨fun b hb => ?_, fun b b' t h h' => ?_, fun b b' i h => absurd h (hbx b i)⟩, hbx, hw4, hw5, hw6, by omega, fun b hb hn' => hold b (hnl hb) (hn' 2), fun b hb _ => hw2 b hb⟩
  ·have htk : (cur.toList.take (xs.length * 2)).take (i * 2) = cur.toList.take (i * 2) := by rw [List.take_take, Nat.min_eq_left (by omega)]
   rw [htk] at hlv hpw hone
   refine .own 2 2 _ _ 35 _ (by omega) ⟨?_, .inr ⟨w.heap.size, C, row, by rw [hlen], Nat.zero_le _, hw1, by rw [hlen]; exact hC1, hC2, hrs, by rw [hlen]; exact hrt⟩⟩ (fun b hb' => by simp only [Value.ownBlock, Option.some.injEq] at hb'; rw [<- hb']; exact hnew) hxs hone ?_
   ·rw [hlv, hlen]
   ·exact hpw.mono fun x v _ hf => hf.mono hst fun b hb' => hw2 b (hgood.lt b (by rw [show G b = .stable from hb']; simp))
  ·by_cases hb2 : b = w.heap.size
   ·omega
   ·have : G b ≠ .junk := fun hj => by
     by_cases h2 : G b = .tag 2
     ·rw [h2] at hj; cases hj
     ·exact hb (by rw [hold b hb2 h2]; exact hj)
    have := hgood.lt b this
    omega
  ·rcases htg b t h with ⟨k1, k2⟩ | ⟨k1, k2, k3⟩ <;> rcases htg b' t h' with ⟨l1, l2⟩ | ⟨l1, l2, l3⟩
   ·rw [k1, l1]
   ·omega
   ·omega
   ·exact hgood.tags b b' t k3 l3
end Go.AM
set_option linter.unusedVariables false
namespace Go.AM
open Go Go.Proofs Go.RowKit
set_option maxRecDepth 100000
set_option maxHeartbeats 8000000
theorem ins_end (v x v' : Value) (g g2 n cap c2 : Nat) (w w1 : World) (hv : v = .slice (some ⟨g, 0, none⟩) n cap) (hx : x = .slice (some ⟨g2, 0, none⟩) 1 c2) (hnc : n <= cap)
  (hr : ∀ ty, (Builtin.append_ #[33, 33] ty #[.slice (some ⟨g, 0, none⟩) n cap, .slice (some ⟨g2, 0, none⟩) 1 c2]).run Tryz.prog w = .ok v' w1) :
  Calls Tryz.prog 116 #[v, .int .i64 n, x] w fun e' w' => e' = .returned v' /\ w' = w1 := by
 subst hv; subst hx
 have u33 : Tryz.prog.underlying 33 = some (TypeDesc.slice 35) := by kernel_rfl
 have mixed : Tryz.prog.follows .mixedOrders = true := by kernel_rfl
 go_enter Tryz.func116, Tryz.ntmps116
 go_wp2_with (first
  | (at_builtin; refine Lib.wpList_append_run _ rfl _ _ _ _ rfl _ _ rfl rfl _ _ (hr _) ?_))
 all_goals
  go_ret
  exact ⟨rfl, rfl⟩
theorem append_roomN {P : Program} (w : World) (t ty e te : TypeId) (i : TypeInfo) (ht : P.underlying t = some (.slice e)) (hi : P.info? e = some i)
  (g sLen sCap : Nat) (cur : Array Value) (hg : w.heap[g]? = some (.cells cur te (0, 0)))
  (a : Addr) (m c : Nat) (news : List Value) (hl : news.length = m * i.size) (hnews : ∀ j u, news[j]? = some u -> w.cell? (a.add j) = some u) (h1 : ∀ u ∈ news, u.oneCell' = true)
  (hroom : sLen + m <= sCap) (hfit : sLen * i.size + news.length <= cur.size) :
  (Builtin.append_ #[t, t] ty #[.slice (some ⟨g, 0, none⟩) sLen sCap, .slice (some a) m c]).run P w =
   .ok (.slice (some ⟨g, 0, none⟩) (sLen + m) sCap) (w.setRow g (cur.toList.take (sLen * i.size) ++ news ++ cur.toList.drop (sLen * i.size + news.length)).toArray) := by
 have hf := run_firstCells_some (P := P) w i.size m a m c news hl hnews
 have hst := run_storeCells_at P g (sLen * i.size) te news 0 cur w hg (by simpa using hfit) h1
 simp only [Nat.add_zero] at hst
 simp [Builtin.append_, run_underlying ht, sizeOf, typeInfo, hi, Builtin.lenOf, hroom, hf, Addr.add_lit, hst]
theorem row_here {G : Nat -> Status} {w w' : World} {g cap n : Nat} {row : Array Value} {e : TypeId} {vals : List Value} {xs : List AV} {e1 : Ending} (hgood : Good G w) (hnb : ∀ b i, G b ≠ .box i) (hGg : G g = .tag 2)
  (he : e1 = .returned (.slice (some ⟨g, 0, none⟩) n cap)) (hbg : w'.heap[g]? = some (.cells row e (0, 0))) (hb : ∀ b, b ≠ g -> w'.heap[b]? = w.heap[b]?) (hsz : w'.heap.size = w.heap.size) (hw4 : w'.os = w.os) (hw5 : w'.tape = w.tape) (hw6 : w'.output = w.output)
  (hn : n <= cap) (hm : cap <= maxLen) (hrs : row.size = cap * 2) (hrt : row.toList.take (n * 2) = vals) (hxl : xs.length = n) (hx : ∀ x ∈ xs, x.cells.length = 2) (hone : One vals) (hpw : PW (FRel (Stable G) w) (flat xs) vals) (hvl : vals.length = n * 2) :
  ∃ v r G', e1 = .returned v /\ r = AV.sl 2 2 xs /\ VRel G' w' r v /\ Good G' w' /\ (∀ b i, G' b ≠ .box i) /\
   w'.os = w.os /\ w'.tape = w.tape /\ w'.output = w.output /\ w.heap.size <= w'.heap.size /\ (∀ b, b < w.heap.size -> (∀ t, G b ≠ .tag t) -> G' b = G b) /\ (∀ b, b < w.heap.size -> (∀ t, G b ≠ .tag t) -> w'.heap[b]? = w.heap[b]?) := by
 subst hxl
 refine ⟨_, _, G, he, rfl, ?_, ⟨fun b hb' => by rw [hsz]; exact hgood.lt b hb', hgood.tags, hgood.boxes⟩, hnb, hw4, hw5, hw6, by omega, fun _ _ _ => rfl, fun b _ hn' => hb b fun h => by subst h; exact hn' 2 hGg⟩
 refine .own 2 2 _ _ e _ (by omega) ⟨hvl, .inr ⟨g, cap, row, rfl, Nat.zero_le _, hbg, hn, hm, hrs, hrt⟩⟩ (fun b hb' => by simp only [Value.ownBlock, Option.some.injEq] at hb'; rw [<- hb']; exact hGg) hx hone ?_
 refine hpw.mono fun x v _ hf => hf.mono (fun _ h => h) fun b hb' => hb b fun h => ?_
 subst h
 unfold Stable at hb'
 rw [hGg] at hb'; cases hb'
theorem row_new {G : Nat -> Status} {w w' : World} {cap n : Nat} {row : Array Value} {e : TypeId} {vals : List Value} {xs : List AV} {e1 : Ending} (hgood : Good G w) (hnb : ∀ b i, G b ≠ .box i)
  (he : e1 = .returned (.slice (some ⟨w.heap.size, 0, none⟩) n cap)) (hw1 : w'.heap[w.heap.size]? = some (.cells row e (0, 0))) (hw2 : ∀ b, b < w.heap.size -> w'.heap[b]? = w.heap[b]?) (hw3 : w'.heap.size = w.heap.size + 1) (hw4 : w'.os = w.os) (hw5 : w'.tape = w.tape) (hw6 : w'.output = w.output)
  (hn : n <= cap) (hm : cap <= maxLen) (hrs : row.size = cap * 2) (hrt : row.toList.take (n * 2) = vals) (hxl : xs.length = n) (hx : ∀ x ∈ xs, x.cells.length = 2) (hone : One vals) (hpw : PW (FRel (Stable G) w) (flat xs) vals) (hvl : vals.length = n * 2) :
  ∃ v r G', e1 = .returned v /\ r = AV.sl 2 2 xs /\ VRel G' w' r v /\ Good G' w' /\ (∀ b i, G' b ≠ .box i) /\
   w'.os = w.os /\ w'.tape = w.tape /\ w'.output = w.output /\ w.heap.size <= w'.heap.size /\ (∀ b, b < w.heap.size -> (∀ t, G b ≠ .tag t) -> G' b = G b) /\ (∀ b, b < w.heap.size -> (∀ t, G b ≠ .tag t) -> w'.heap[b]? = w.heap[b]?) := by
 subst hxl
 have hnl : ∀ {b}, b < w.heap.size -> b ≠ w.heap.size := fun h => by omega
 obtain ⟨G', hG'⟩ : ∃ G' : Nat -> Status, G' = fun b => if b = w.heap.size then .tag 2 else if G b = .tag 2 then .junk else G b := ⟨_, rfl⟩
 have hnew : G' w.heap.size = .tag 2 := by rw [hG']; simp
 have hold : ∀ b, b ≠ w.heap.size -> G b ≠ .tag 2 -> G' b = G b := fun b h1 h2 => by rw [hG']; simp [h1, h2]
 have hgone : ∀ b, b ≠ w.heap.size -> G b = .tag 2 -> G' b = .junk := fun b h1 h2 => by rw [hG']; simp [h1, h2]
 have hst : ∀ b, Stable G b -> Stable G' b := fun b h => by
  unfold Stable at *
  rw [hold b (hnl (hgood.lt b (by rw [h]; simp))) (by rw [h]; simp), h]
 have htg : ∀ b t, G' b = .tag t -> b = w.heap.size /\ t = 2 \/ b ≠ w.heap.size /\ t ≠ 2 /\ G b = .tag t := fun b t h => by
  by_cases hb : b = w.heap.size
  ·subst hb; rw [hnew] at h; injection h with h; exact .inl ⟨rfl, h.symm⟩
  ·by_cases h2 : G b = .tag 2
   ·rw [hgone b hb h2] at h; cases h
   ·rw [hold b hb h2] at h
    exact .inr ⟨hb, fun ht => h2 (by rw [h, ht]), h⟩
 have hbx : ∀ b i, G' b ≠ .box i := fun b i h => by
  by_cases hb : b = w.heap.size
  ·subst hb; rw [hnew] at h; cases h
  ·by_cases h2 : G b = .tag 2
   ·rw [hgone b hb h2] at h; cases h
   ·rw [hold b hb h2] at h; exact hnb b i h
 refine ⟨_, _, G', he, rfl, ?_, ⟨fun b hb => ?_, fun b b' t h h' => ?_, fun b b' i h => absurd h (hbx b i)⟩, hbx, hw4, hw5, hw6, by omega, fun b hb hn' => hold b (hnl hb) (hn' 2), fun b hb _ => hw2 b hb⟩
 ·refine .own 2 2 _ _ e _ (by omega) ⟨hvl, .inr ⟨w.heap.size, cap, row, rfl, Nat.zero_le _, hw1, hn, hm, hrs, hrt⟩⟩ (fun b hb' => by simp only [Value.ownBlock, Option.some.injEq] at hb'; rw [<- hb']; exact hnew) hx hone ?_
  exact hpw.mono fun x v _ hf => hf.mono hst fun b hb' => hw2 b (hgood.lt b (by rw [show G b = .stable from hb']; simp))
 ·by_cases hb2 : b = w.heap.size
  ·omega
  ·have : G b ≠ .junk := fun hj => by
    by_cases h2 : G b = .tag 2
    ·rw [h2] at hj; cases hj
    ·exact hb (by rw [hold b hb2 h2]; exact hj)
   have := hgood.lt b this
   omega
 ·rcases htg b t h with ⟨k1, k2⟩ | ⟨k1, k2, k3⟩ <;> rcases htg b' t h' with ⟨l1, l2⟩ | ⟨l1, l2, l3⟩
  ·rw [k1, l1]
  ·omega
  ·omega
  ·exact hgood.tags b b' t k3 l3
end Go.AM
set_option linter.unusedVariables false
namespace Go.AM
open Go Go.Proofs Go.RowKit
set_option maxRecDepth 100000
set_option maxHeartbeats 8000000
theorem own_row0 {G : Nat -> Status} {w : World} {t : Nat} {xs : List AV} {v : Value} (h : VRel G w (.sl t 2 xs) v) (ht : 2 <= t) :
  (v = .slice none 0 0 /\ xs = []) \/ ∃ g cap cur e, v = .slice (some ⟨g, 0, none⟩) xs.length cap /\ G g = .tag t /\ w.heap[g]? = some (.cells cur e (0, 0)) /\ xs.length <= cap /\ cap <= maxLen /\ cur.size = cap * 2 /\
   (∀ x ∈ xs, x.cells.length = 2) /\ One (cur.toList.take (xs.length * 2)) /\ PW (FRel (Stable G) w) (flat xs) (cur.toList.take (xs.length * 2)) := by
 cases h with
 | froz h => exfalso; cases h <;> omega
 | own _ _ _ _ e vals _ h2 h3 h4 h5 h6 =>
  rcases h2.2 with ⟨hv, hz⟩ | ⟨g, cap, cur, hv, _, hh, hn, hc, hs, ht⟩
  ·exact .inl ⟨hv, List.eq_nil_of_length_eq_zero hz⟩
  ·subst ht
   exact .inr ⟨g, cap, cur, e, hv, h3 g (by rw [hv]; rfl), hh, hn, hc, hs, h4, h5, h6⟩
theorem ins_end_nil (v x v' : Value) (g2 c2 : Nat) (w w1 : World) (hv : v = .slice none 0 0) (hx : x = .slice (some ⟨g2, 0, none⟩) 1 c2)
  (hr : ∀ ty, (Builtin.append_ #[33, 33] ty #[.slice none 0 0, .slice (some ⟨g2, 0, none⟩) 1 c2]).run Tryz.prog w = .ok v' w1) :
  Calls Tryz.prog 116 #[v, .int .i64 0, x] w fun e' w' => e' = .returned v' /\ w' = w1 := by
 subst hv; subst hx
 have u33 : Tryz.prog.underlying 33 = some (TypeDesc.slice 35) := by kernel_rfl
 have mixed : Tryz.prog.follows .mixedOrders = true := by kernel_rfl
 go_enter Tryz.func116, Tryz.ntmps116
 go_wp2_with (first
  | (at_builtin; refine Lib.wpList_append_run _ rfl _ _ _ _ rfl _ _ rfl rfl _ _ (hr _) ?_))
 all_goals
  go_ret
  exact ⟨rfl, rfl⟩
theorem con_insert_end0 (xs : List AV) (y : AV) (hn : xs.length <= 1000000) :
  ConC Tryz.prog 116 [.sl 2 2 xs, .sc (.int .i64 xs.length), .sl 3 2 [y]] fun r => r = .sl 2 2 (xs ++ [y]) := by
 refine ⟨⟨Tryz.f116, by kernel_rfl, by kernel_rfl, by kernel_rfl⟩, fun G w vs hgood hnb hv => ?_⟩
 obtain ⟨v1, r1, e1, h1, h1'⟩ := hv.cons_inv
 obtain ⟨v2, r2, e2, h2, h2'⟩ := h1'.cons_inv
 obtain ⟨v3, r3, e3, h3, h3'⟩ := h2'.cons_inv
 have := h3'.nil_inv
 subst this; subst e3; subst e2
 have := h2.sc_inv
 subst this
 obtain ⟨g2, cap2, cur2, e', hv3, hGg2, hh2, hnc2, hm2, hs2, hy, h1u, hPy⟩ := own_row h3 (by omega) (by simp)
 rcases own_row0 h1 (by omega) with ⟨hv1, rfl⟩ | ⟨g, cap, cur, e, hv1, hGg, hh, hnc, hm, hs, hx, h1c, hP⟩
 ·skip
  have hvs : vs = #[v1, .int .i64 0, v3] := by cases vs; simp_all
  subst hvs
  have hc2 : 1 <= cap2 := hnc2
  have hl2 : cur2.toList.length = cap2 * 2 := by rw [Array.length_toList, hs2]
  have hus : (cur2.toList.take ([y].length * 2)).length = 2 := by rw [List.length_take, hl2]; show min (1 * 2) _ = 2; omega
  have hu2 : ∀ (j : Nat) (u : Value), (cur2.toList.take ([y].length * 2))[j]? = some u -> w.cell? ((⟨g2, 0, none⟩ : Addr).add j) = some u := fun j u hj => by
   rw [List.getElem?_take] at hj
   split at hj
   ·rw [addr_add, Nat.zero_add]; exact cell_row hh2 (by rw [<- Array.getElem?_toList]; exact hj)
   ·cases hj
  have u33 : Tryz.prog.underlying 33 = some (TypeDesc.slice 35) := by kernel_rfl
  obtain ⟨ti, hti, hts, htb, htz⟩ := tinfo_some (show tinfo Tryz.prog 35 = some (2, 32, some (Value.agg (List.toArray [Value.int IntKind.i64 0, Value.slice none 0 0]))) by kernel_rfl)
  generalize hZ : (Value.agg (List.toArray [Value.int IntKind.i64 0, Value.slice none 0 0])) = Z at htz
  have hZc : Z.cells.size = 2 := by rw [<- hZ]; rfl
  generalize cur2.toList.take ([y].length * 2) = us at *
  have hap := fun ty => run_append_nil (P := Tryz.prog) w 33 ty 35 ti Z u33 hti htz ⟨g2, 0, none⟩ 1 cap2 us (by rw [hus, hts]) hu2 (by omega) (by omega) (by rw [htb]; omega)
  have hge := grownCap_ge w 1 0 35
  have hcm : grownCap w 1 0 35 <= maxLen := grownCap_le_maxLen w 1 0 35 (by unfold maxLen; omega)
  generalize grownCap w 1 0 35 = C at hap hge hcm
  refine (ins_end_nil v1 v3 _ g2 cap2 w _ hv1 hv3 hap).mono fun e1 w' ⟨he, hw⟩ => ?_
  refine row_new (row := us.toArray ++ Builtin.zeroCells Z.cells (C - 1)) (e := 35) (n := 1) (vals := us) hgood hnb he ?_ (fun b hb => ?_) ?_ (by rw [hw]; rfl) (by rw [hw]; rfl) (by rw [hw]; rfl) hge hcm ?_ ?_ rfl hy h1u hPy hus
  ·rw [hw]; show (w.heap.push _)[w.heap.size]? = _; simp
  ·rw [hw]; show (w.heap.push _)[b]? = _; rw [Array.getElem?_push, if_neg (by omega)]
  ·rw [hw]; show (w.heap.push _).size = _; simp
  ·rw [Array.size_append, List.size_toArray, hus, zero_size Z hZc]; omega
  ·simp only [Array.toList_append]
   rw [show 1 * 2 = us.length by rw [hus], List.take_left]
 have hvs : vs = #[v1, .int .i64 xs.length, v3] := by cases vs; simp_all
 subst hvs
 have hc2 : 1 <= cap2 := hnc2
 have hl1 : cur.toList.length = cap * 2 := by rw [Array.length_toList, hs]
 have hl2 : cur2.toList.length = cap2 * 2 := by rw [Array.length_toList, hs2]
 have hus : (cur2.toList.take ([y].length * 2)).length = 2 := by rw [List.length_take, hl2]; show min (1 * 2) _ = 2; omega
 have hu2 : ∀ (j : Nat) (u : Value), (cur2.toList.take ([y].length * 2))[j]? = some u -> w.cell? ((⟨g2, 0, none⟩ : Addr).add j) = some u := fun j u hj => by
  rw [List.getElem?_take] at hj
  split at hj
  ·rw [addr_add, Nat.zero_add]; exact cell_row hh2 (by rw [<- Array.getElem?_toList]; exact hj)
  ·cases hj
 have hxs : ∀ x ∈ xs ++ [y], x.cells.length = 2 := fun x hx' => by
  rcases List.mem_append.1 hx' with h | h
  ·exact hx x h
  ·exact hy x h
 have hlen : (xs ++ [y]).length = xs.length + 1 := by simp
 have hpw : PW (FRel (Stable G) w) (flat (xs ++ [y])) (cur.toList.take (xs.length * 2) ++ cur2.toList.take ([y].length * 2)) := by rw [flat_app']; exact hP.append hPy
 have hone : One (cur.toList.take (xs.length * 2) ++ cur2.toList.take ([y].length * 2)) := fun u hu => by
  rcases List.mem_append.1 hu with hu | hu
  ·exact h1c u hu
  ·exact h1u u hu
 have hol : (cur.toList.take (xs.length * 2)).length = xs.length * 2 := by rw [List.length_take, hl1, Nat.min_eq_left (by omega)]
 have hlv : (cur.toList.take (xs.length * 2) ++ cur2.toList.take ([y].length * 2)).length = (xs.length + 1) * 2 := by rw [List.length_append, hus, hol]; omega
 have u33 : Tryz.prog.underlying 33 = some (TypeDesc.slice 35) := by kernel_rfl
 obtain ⟨ti, hti, hts, htb, htz⟩ := tinfo_some (show tinfo Tryz.prog 35 = some (2, 32, some (Value.agg (List.toArray [Value.int IntKind.i64 0, Value.slice none 0 0]))) by kernel_rfl)
 generalize hZ : (Value.agg (List.toArray [Value.int IntKind.i64 0, Value.slice none 0 0])) = Z at htz
 have hZc : Z.cells.size = 2 := by rw [<- hZ]; rfl
 generalize cur2.toList.take ([y].length * 2) = us at *
 by_cases hroom : xs.length + 1 <= cap
 ·have hap := fun ty => append_roomN (P := Tryz.prog) w 33 ty 35 e ti u33 hti g xs.length cap cur hh ⟨g2, 0, none⟩ 1 cap2 us (by rw [hus, hts]) hu2 h1u hroom (by rw [hus, hts, hs]; omega)
  rw [hts] at hap
  refine (ins_end v1 v3 _ g g2 xs.length cap cap2 w _ hv1 hv3 hnc hap).mono fun e1 w' ⟨he, hw⟩ => ?_
  refine row_here hgood hnb hGg he (by rw [hw]; exact setRow_heap w g cur _ e _ hh) (fun b hb => by rw [hw, heap_setRow_ne hb]) (by rw [hw, setRow_size]) (by rw [hw]; rfl) (by rw [hw]; rfl) (by rw [hw]; rfl) hroom hm ?_ ?_ hlen hxs hone hpw hlv
  ·rw [List.size_toArray, List.length_append, List.length_append, hol, hus, List.length_drop, hl1]; omega
  ·simp only []
   rw [<- hlv, List.take_left]
 ·have hap := fun ty => run_append_grow (P := Tryz.prog) w 33 ty 35 ti Z u33 hti htz ⟨g, 0, none⟩ xs.length cap (cur.toList.take (xs.length * 2)) (by rw [hol, hts]) (fun j u hj => by
    rw [addr_add, Nat.zero_add]
    rw [List.getElem?_take] at hj
    split at hj
    ·exact cell_row hh (by rw [<- Array.getElem?_toList]; exact hj)
    ·cases hj) ⟨g2, 0, none⟩ 1 cap2 us (by rw [hus, hts]) hu2 (by omega) (by omega) (by rw [htb]; exact growslice_fits (by omega) (by omega))
  have hge := grownCap_ge w (xs.length + 1) cap 35
  have hcm : grownCap w (xs.length + 1) cap 35 <= maxLen := grownCap_le_maxLen w (xs.length + 1) cap 35 (by unfold maxLen; omega)
  generalize grownCap w (xs.length + 1) cap 35 = C at hap hge hcm
  refine (ins_end v1 v3 _ g g2 xs.length cap cap2 w _ hv1 hv3 hnc hap).mono fun e1 w' ⟨he, hw⟩ => ?_
  refine row_new (row := (cur.toList.take (xs.length * 2)).toArray ++ us.toArray ++ Builtin.zeroCells Z.cells (C - (xs.length + 1))) (e := 35) hgood hnb he ?_ (fun b hb => ?_) ?_ (by rw [hw]; rfl) (by rw [hw]; rfl) (by rw [hw]; rfl) hge hcm ?_ ?_ hlen hxs hone hpw hlv
  ·rw [hw]; show (w.heap.push _)[w.heap.size]? = _; simp
  ·rw [hw]; show (w.heap.push _)[b]? = _; rw [Array.getElem?_push, if_neg (by omega)]
  ·rw [hw]; show (w.heap.push _).size = _; simp
  ·rw [Array.size_append, Array.size_append, List.size_toArray, List.size_toArray, hol, hus, zero_size Z hZc]; omega
  ·simp only [Array.toList_append]
   rw [<- hlv, List.take_left]
theorem con_insert0 (xs : List AV) (y : AV) (i : Nat) (hi : i <= xs.length) (hn : xs.length <= 1000000) :
  ConC Tryz.prog 116 [.sl 2 2 xs, .sc (.int .i64 i), .sl 3 2 [y]] fun r => r = .sl 2 2 (xs.take i ++ y :: xs.drop i) := by
 by_cases h : i < xs.length
 ·exact con_insert_mid xs _ i h hn
 ·obtain rfl : i = xs.length := by omega
  rw [List.take_length, List.drop_length]
  exact con_insert_end0 xs y hn
end Go.AM
namespace Go.AM
open Go.RowKit
def frontW8 (P : Program) (op : Op) (σ : St) (K : AV -> Prop) : Prop :=
 match op with
 | .nilCheck x => isPtr (σ.ev x) = true /\ K (σ.ev x)
 | op => frontW P op σ K
theorem frontW8_sound {P : Program} {p : Oper} {σ : St} {K : AV -> Prop} (h : frontW8 P p.op σ K) :
  ∃ y, K y /\ ∀ (G : Nat -> Status) (a : Act) (w : World), Good G w -> (∀ x, VRel G w (σ.ev x) (a.eval x)) -> ∃ v, VRel G w y v /\ ∀ w', (execOp a.eval p).run P w' = .ok (.value v) w' := by
 unfold frontW8 at h
 split at h
 ·rename_i x ho
  obtain ⟨hp, hK⟩ := h
  refine ⟨_, hK, fun G a w hg hv => ?_⟩
  obtain ⟨b, o, hb, ho'⟩ := (hv x).ptr_inv hp
  exact ⟨a.eval x, hv x, fun w' => by simp [execOp, ho, hb]⟩
 ·exact frontW_sound h
def frA8 (P : Program) (o : Option Oper) (σ : St) (K : St -> Prop) : Prop :=
 match o with
 | some ⟨some d, op, _, _, _, _⟩ => d < σ.n /\ frontW8 P op σ fun y => K (σ.put (some d) y)
 | _ => False
def treeA8 (P : Program) (ops : Array Oper) : Tr -> St -> (St -> Prop) -> Prop
 | .done, σ, K => K σ
 | .front j t, σ, K => frA8 P ops[j]? σ fun σ' => treeA8 P ops t σ' K
 | .one j t, σ, K => stepA P ops ops[j]? σ fun σ' => treeA8 P ops t σ' K
 | .hd j t, σ, K => stepH P ops[j]? σ fun σ' => treeA8 P ops t σ' K
 | .alt a b, σ, K => treeA8 P ops a σ K /\ treeA8 P ops b σ K
 | .retag a b t, σ, K => 2 <= a /\ 2 <= b /\ treeA8 P ops t (σ.map (retagLeaf a b)) K
section
variable {P : Program} {ops : Array Oper} {G0 : Orig} {w0 : World} {Q : Exit -> Act -> World -> Prop}
theorem tree_run8 {K : St -> Prop} (h0 : True) (hlt : ∀ i o, ops[i]? = some o -> ∀ k ∈ edges o, k < i) (hN : ∀ e a w, e ≠ .normal -> ¬ Q e a w) (hQ : ∀ σ' G' a' w', K σ' -> SRel G0 w0 σ' G' a' w' -> Q .normal a' w') :
  ∀ (t : Tr) (top : Bool) (L : List Nat) (listed : Array Bool) (U : List Nat) (σ : St) (G : Nat -> Status) (a : Act) (w : World), trOk ops top L t = true -> Left ops listed U -> Closed ops (fun k => listed.getD k false) -> (∀ i, i < ops.size -> (listed.getD i false = true ↔ L.contains i = true)) ->
   treeA8 P ops t σ K -> SRel G0 w0 σ G a w ->
   (top = true -> wpAny P .any ops Q U.length listed a w) /\ ∀ i ∈ t.cover, i ∈ Region.ready .any ops listed -> Go.wpOp P ops Q i (wpAny P .any ops Q (U.length - 1) (listed.setIfInBounds i true)) a w
 | .done, top, L, listed, U, σ, G, a, w, hok, hl, hc, hL, h, hs => by
  simp only [trOk, Bool.and_eq_true, List.all_eq_true, List.mem_range] at hok
  refine ⟨fun _ => ?_, fun i hi => by simp [Tr.cover] at hi⟩
  have hU : U = [] := by
   apply List.eq_nil_iff_forall_not_mem.2
   intro i hi
   obtain ⟨h1, h2⟩ := (hl.mem i).1 hi
   rw [(hL i h1).2 (hok.2 i h1)] at h2; cases h2
  subst hU
  refine ⟨?_, hQ σ G a w h hs⟩
  apply List.eq_nil_iff_forall_not_mem.2
  intro i hi
  obtain ⟨o, ho, h1, _⟩ := (ready_iff hl.size).1 hi
  have hlt' := (Array.getElem?_eq_some_iff.1 ho).1
  rw [(hL i hlt').2 (hok.2 i hlt')] at h1; cases h1
 | .front j t, top, L, listed, U, σ, G, a, w, hok, hl, hc, hL, h, hs => by
  simp only [trOk, Bool.and_eq_true] at hok
  obtain ⟨_, hr, hf, ht⟩ := hok
  have hready := (readyIn_iff hl hlt hL).1 hr
  refine ⟨fun _ => ?_, fun i hi => by simp [Tr.cover] at hi⟩
  obtain ⟨p, hp, k1, k2⟩ := (ready_iff hl.size).1 hready
  rw [hp] at hf
  obtain ⟨d', hfr⟩ := frontOk_front hp hf
  simp only [treeA8, frA8, hp] at h
  split at h
  ·rename_i d op T pos af g hj
   cases hj
   obtain ⟨hdn, h⟩ := h
   obtain rfl : d = d' := by simpa using hfr.dst
   have hjs := (Array.getElem?_eq_some_iff.1 hp).1
   have hmem : j ∈ U := (hl.mem j).2 ⟨hjs, k1⟩
   obtain ⟨l1, l2⟩ := hl.step hmem
   have hsz : j < listed.size := by rw [hl.size]; exact hjs
   obtain ⟨y, hK, hy⟩ := frontW8_sound (p := ⟨some d, op, T, pos, af, g⟩) h
   obtain ⟨v, hv, hex⟩ := hy G a w hs.good (fun x => hs.ev x)
   have hrun := (tree_run8 h0 hlt hN hQ t true (j :: L) (listed.setIfInBounds j true) (U.erase j) (σ.put (some d) y) G (a.put (some d) v) w ht l1 (hc.step hsz hp k2) (fun i hi => by
     rw [set_getD hsz]
     by_cases hij : j = i
     ·subst hij; simp
     ·rw [if_neg hij, hL i hi]; simp [Ne.symm hij]) hK
    (hs.add (.refl G w) hs.good (fun _ _ h => h) (by simp [dstOk, hdn]) hv)).1 rfl
   rw [<- l2]
   exact front_run hN hfr _ _ _ _ v hl.size hc hready hex hrun
  ·exact h.elim
 | .one j t, top, L, listed, U, σ, G, a, w, hok, hl, hc, hL, h, hs => by
  simp only [trOk, Bool.and_eq_true, Bool.or_eq_true, Bool.not_eq_true'] at hok
  have key : j ∈ Region.ready .any ops listed -> Go.wpOp P ops Q j (wpAny P .any ops Q (U.length - 1) (listed.setIfInBounds j true)) a w := by
   intro hready
   obtain ⟨o, ho, k1, k2⟩ := (ready_iff hl.size).1 hready
   have hjs := (Array.getElem?_eq_some_iff.1 ho).1
   have hmem : j ∈ U := (hl.mem j).2 ⟨hjs, k1⟩
   obtain ⟨l1, l2⟩ := hl.step hmem
   have hsz : j < listed.size := by rw [hl.size]; exact hjs
   simp only [treeA8, stepA, ho] at h
   refine one_run h0 ho h hs fun {σ' G' a' w'} hk hs' => ?_
   have := (tree_run8 h0 hlt hN hQ t true (j :: L) (listed.setIfInBounds j true) (U.erase j) σ' G' a' w' hok.2 l1 (hc.step hsz ho k2) (fun i hi => by
     rw [set_getD hsz]
     by_cases hij : j = i
     ·subst hij; simp
     ·rw [if_neg hij, hL i hi]; simp [Ne.symm hij]) hk hs').1 rfl
   rw [show U.length - 1 = (U.erase j).length by omega]
   exact this
  refine ⟨fun htop => ?_, fun i hi hr => ?_⟩
  ·refine of_steps hl hlt hL (hok.1.resolve_left (by simp [htop])) fun i hi hr => ?_
   have hij : i = j := by simpa using hi
   subst hij; exact key hr
  ·have hij : i = j := by simpa [Tr.cover] using hi
   subst hij; exact key hr
 | .hd j t, top, L, listed, U, σ, G, a, w, hok, hl, hc, hL, h, hs => by
  simp only [trOk, Bool.and_eq_true, Bool.or_eq_true, Bool.not_eq_true'] at hok
  have key : j ∈ Region.ready .any ops listed -> Go.wpOp P ops Q j (wpAny P .any ops Q (U.length - 1) (listed.setIfInBounds j true)) a w := by
   intro hready
   obtain ⟨o, ho, k1, k2⟩ := (ready_iff hl.size).1 hready
   have hjs := (Array.getElem?_eq_some_iff.1 ho).1
   have hmem : j ∈ U := (hl.mem j).2 ⟨hjs, k1⟩
   obtain ⟨l1, l2⟩ := hl.step hmem
   have hsz : j < listed.size := by rw [hl.size]; exact hjs
   simp only [treeA8, ho] at h
   refine hd_run h0 ho h hs fun {σ' G' a' w'} hk hs' => ?_
   have := (tree_run8 h0 hlt hN hQ t true (j :: L) (listed.setIfInBounds j true) (U.erase j) σ' G' a' w' hok.2 l1 (hc.step hsz ho k2) (fun i hi => by
     rw [set_getD hsz]
     by_cases hij : j = i
     ·subst hij; simp
     ·rw [if_neg hij, hL i hi]; simp [Ne.symm hij]) hk hs').1 rfl
   rw [show U.length - 1 = (U.erase j).length by omega]
   exact this
  refine ⟨fun htop => ?_, fun i hi hr => ?_⟩
  ·refine of_steps hl hlt hL (hok.1.resolve_left (by simp [htop])) fun i hi hr => ?_
   have hij : i = j := by simpa using hi
   subst hij; exact key hr
  ·have hij : i = j := by simpa [Tr.cover] using hi
   subst hij; exact key hr
 | .retag x y t, top, L, listed, U, σ, G, a, w, hok, hl, hc, hL, h, hs => by
  simp only [trOk, Bool.and_eq_true] at hok
  exact ⟨fun _ => (tree_run8 h0 hlt hN hQ t true L listed U _ _ a w hok.2 hl hc hL h.2.2 (hs.retag h0 h.1 h.2.1)).1 rfl, fun i hi => by simp [Tr.cover] at hi⟩
 | .alt x y, top, L, listed, U, σ, G, a, w, hok, hl, hc, hL, h, hs => by
  simp only [trOk, Bool.and_eq_true, Bool.or_eq_true, Bool.not_eq_true'] at hok
  obtain ⟨hcov, hx, hy⟩ := hok
  have ix := (tree_run8 h0 hlt hN hQ x false L listed U σ G a w hx hl hc hL h.1 hs).2
  have iy := (tree_run8 h0 hlt hN hQ y false L listed U σ G a w hy hl hc hL h.2 hs).2
  have key : ∀ i ∈ (Tr.alt x y).cover, i ∈ Region.ready .any ops listed -> Go.wpOp P ops Q i (wpAny P .any ops Q (U.length - 1) (listed.setIfInBounds i true)) a w := fun i hi hr => by
   rcases List.mem_append.1 hi with hi | hi
   ·exact ix i hi hr
   ·exact iy i hi hr
  exact ⟨fun htop => of_steps hl hlt hL (hcov.resolve_left (by simp [htop])) key, key⟩
end
theorem DrawK.treeO8 {P : Program} {ops : Array Oper} {σ : St} {K : St -> Prop} (t : Tr) (hm : P.follows .mixedOrders = true) (hok : treeOk ops t = true) (h : treeA8 P ops t σ K) : DrawK P ops σ K := by
 intro G0 w0 G a w id Q h0 hs hQ
 simp only [treeOk, Bool.and_eq_true, List.all_eq_true, List.mem_range] at hok
 refine wp_region_any hm (wpAny_normal _ _ _ _ ?_)
 have hgd : ∀ i, (Array.replicate ops.size false).getD i false = false := fun i => by
  by_cases hi : i < ops.size <;> simp [hi]
 have := (tree_run8 (P := P) (Q := fun e a w => e = .normal /\ Q e a w) h0 (fun i o ho => by
   have := hok.1 i (Array.getElem?_eq_some_iff.1 ho).1
   rw [ho] at this
   simpa only [List.all_eq_true, decide_eq_true_eq] using this) (fun e a w hn h => hn h.1) (fun σ' G' a' w' hk hs => ⟨rfl, hQ σ' G' a' w' hk hs⟩) t true [] (Array.replicate ops.size false) (List.range ops.size) σ G a _ hok.2
   ⟨by simp, List.nodup_range, fun i => by rw [List.mem_range, hgd]; simp⟩ (fun i o _ hi => absurd (show (Array.replicate ops.size false).getD i false = true from hi) (by rw [hgd]; simp)) (fun i _ => by rw [hgd]; simp) h (hs.drawn (w.drawn + 1))).1 rfl
 simpa using this
theorem DrawK.tree8 {P : Program} {l : List Oper} {σ : St} {K : St -> Prop} (t : Tr) (hm : P.follows .mixedOrders = true) (hok : treeOk l.toArray t = true) (h : treeA8 P l.toArray t σ K) : DrawK P l.toArray σ K := DrawK.treeO8 t hm hok h
section
variable {P : Program} {n : Nat} {t : List (Nat × AV)} {b : List (List AV)} {ops : Array Oper} {l : List Oper} {tr tr' : Tr} {j : Nat}
variable {d : Nat} {T : TypeId} {pos : String} {af : Array Edge} {g : Option (Nat × Bool)} {K : St -> Prop}
@[congr] theorem frA8_congr {o o' : Option Oper} {σ σ' : St} (h1 : o = o') (h : mkd σ = σ') : frA8 P o σ K = frA8 P o' σ' K := by subst_vars; rfl
@[congr] theorem treeA8_congr {σ σ' : St} (h : mkd σ = σ') : treeA8 P ops tr σ K = treeA8 P ops tr σ' K := by subst_vars; rfl
@[go_sem] theorem treeA8_done : treeA8 P ops .done ⟨n, t, b⟩ K = K ⟨n, t, b⟩ := rfl
@[go_sem] theorem treeA8_front : treeA8 P l.toArray (.front j tr) ⟨n, t, b⟩ K = frA8 P l[j]? ⟨n, t, b⟩ fun σ' => treeA8 P l.toArray tr σ' K := by rw [<- List.getElem?_toArray]; rfl
@[go_sem] theorem treeA8_one : treeA8 P l.toArray (.one j tr) ⟨n, t, b⟩ K = stepA P l.toArray l[j]? ⟨n, t, b⟩ fun σ' => treeA8 P l.toArray tr σ' K := by rw [<- List.getElem?_toArray]; rfl
@[go_sem] theorem treeA8_alt : treeA8 P ops (.alt tr tr') ⟨n, t, b⟩ K = andK (treeA8 P ops tr ⟨n, t, b⟩ K) (treeA8 P ops tr' ⟨n, t, b⟩ K) := rfl
@[go_sem] theorem treeA8_retag {x y : Nat} : treeA8 P ops (.retag x y tr) ⟨n, t, b⟩ K = andK (2 <= x) (andK (2 <= y) (treeA8 P ops tr (St.map ⟨n, t, b⟩ (retagLeaf x y)) K)) := rfl
@[go_sem] theorem treeA8_hd : treeA8 P l.toArray (.hd j tr) ⟨n, t, b⟩ K = stepH P l[j]? ⟨n, t, b⟩ fun σ' => treeA8 P l.toArray tr σ' K := by rw [<- List.getElem?_toArray]; rfl
@[go_sem] theorem frA8_move {x : Operand} : frA8 P (some ⟨some d, .move x, T, pos, af, g⟩) ⟨n, t, b⟩ K = andK (d < n) (K (St.put ⟨n, t, b⟩ (some d) (St.ev ⟨n, t, b⟩ x))) := rfl
@[go_sem] theorem frA8_binOp {op : BinOp} {T' T'' : TypeId} {x y : Operand} : frA8 P (some ⟨some d, .binOp op T' x y T'', T, pos, af, g⟩) ⟨n, t, b⟩ K = andK (d < n) (evBinSc P op T' (St.ev ⟨n, t, b⟩ x) (St.ev ⟨n, t, b⟩ y) fun r => K (St.put ⟨n, t, b⟩ (some d) r)) := rfl
@[go_sem] theorem frA8_fieldAddr {T' : TypeId} {x : Operand} {f : Nat} : frA8 P (some ⟨some d, .fieldAddr T' x f, T, pos, af, g⟩) ⟨n, t, b⟩ K = andK (d < n) (evFieldAddr P T' (St.ev ⟨n, t, b⟩ x) f fun r => K (St.put ⟨n, t, b⟩ (some d) r)) := rfl
@[go_sem] theorem frA8_indexAddr {T' : TypeId} {x i : Operand} : frA8 P (some ⟨some d, .indexAddr T' x i, T, pos, af, g⟩) ⟨n, t, b⟩ K = andK (d < n) (andK (isSlice (St.ev ⟨n, t, b⟩ x) = true) (evIndexAddr P T' (St.ev ⟨n, t, b⟩ x) (St.ev ⟨n, t, b⟩ i) fun r => K (St.put ⟨n, t, b⟩ (some d) r))) := by simp [frA8, frontW8, frontW8, frontW, frontV, andK]
@[go_sem] theorem frA8_nilCheck {x : Operand} : frA8 P (some ⟨some d, .nilCheck x, T, pos, af, g⟩) ⟨n, t, b⟩ K = andK (d < n) (andK (isPtr (St.ev ⟨n, t, b⟩ x) = true) (K (St.put ⟨n, t, b⟩ (some d) (St.ev ⟨n, t, b⟩ x)))) := rfl
end
end Go.AM
namespace Go.AM
open Go Go.Proofs Go.RowKit
def addTree : Tr := .front 0 (.front 1 (.front 5 (.alt (.one 2 (.front 3 (.alt (.one 4 (.one 6 (.one 7 (.one 8 (.one 9 (.front 10 (.one 11 .done))))))) (.one 6 (.alt (.one 4 (.one 7 (.one 8 (.one 9 (.front 10 (.one 11 .done)))))) (.one 7 (.one 4 (.one 8 (.one 9 (.front 10 (.one 11 .done))))))))))) (.one 6 (.alt (.one 2 (.front 3 (.alt (.one 4 (.one 7 (.one 8 (.one 9 (.front 10 (.one 11 .done)))))) (.one 7 (.one 4 (.one 8 (.one 9 (.front 10 (.one 11 .done))))))))) (.one 7 (.one 2 (.front 3 (.one 4 (.one 8 (.one 9 (.front 10 (.one 11 .done)))))))))))))
def addTree11 : Tr := .front 0 (.front 1 (.front 2 (.front 4 (.front 5 (.front 6 (.front 7 (.front 9 (.alt (.one 3 (.alt (.one 8 (.front 10 (.alt (.one 11 (.one 12 (.one 13 (.one 14 (.front 15 (.one 16 .done)))))) (.one 12 (.alt (.one 11 (.one 13 (.one 14 (.front 15 (.one 16 .done))))) (.one 13 (.one 11 (.one 14 (.front 15 (.one 16 .done)))))))))) (.one 12 (.alt (.one 8 (.front 10 (.alt (.one 11 (.one 13 (.one 14 (.front 15 (.one 16 .done))))) (.one 13 (.one 11 (.one 14 (.front 15 (.one 16 .done)))))))) (.one 13 (.one 8 (.front 10 (.one 11 (.one 14 (.front 15 (.one 16 .done))))))))))) (.alt (.one 8 (.front 10 (.alt (.one 3 (.alt (.one 11 (.one 12 (.one 13 (.one 14 (.front 15 (.one 16 .done)))))) (.one 12 (.alt (.one 11 (.one 13 (.one 14 (.front 15 (.one 16 .done))))) (.one 13 (.one 11 (.one 14 (.front 15 (.one 16 .done))))))))) (.alt (.one 11 (.alt (.one 3 (.one 12 (.one 13 (.one 14 (.front 15 (.one 16 .done)))))) (.one 12 (.alt (.one 3 (.one 13 (.one 14 (.front 15 (.one 16 .done))))) (.one 13 (.alt (.one 3 (.one 14 (.front 15 (.one 16 .done)))) (.one 14 (.one 3 (.front 15 (.one 16 .done)))))))))) (.one 12 (.alt (.one 3 (.alt (.one 11 (.one 13 (.one 14 (.front 15 (.one 16 .done))))) (.one 13 (.one 11 (.one 14 (.front 15 (.one 16 .done))))))) (.alt (.one 11 (.alt (.one 3 (.one 13 (.one 14 (.front 15 (.one 16 .done))))) (.one 13 (.alt (.one 3 (.one 14 (.front 15 (.one 16 .done)))) (.one 14 (.one 3 (.front 15 (.one 16 .done)))))))) (.one 13 (.alt (.one 3 (.one 11 (.one 14 (.front 15 (.one 16 .done))))) (.one 11 (.alt (.one 3 (.one 14 (.front 15 (.one 16 .done)))) (.one 14 (.one 3 (.front 15 (.one 16 .done))))))))))))))) (.one 12 (.alt (.one 3 (.alt (.one 8 (.front 10 (.alt (.one 11 (.one 13 (.one 14 (.front 15 (.one 16 .done))))) (.one 13 (.one 11 (.one 14 (.front 15 (.one 16 .done)))))))) (.one 13 (.one 8 (.front 10 (.one 11 (.one 14 (.front 15 (.one 16 .done))))))))) (.alt (.one 8 (.front 10 (.alt (.one 3 (.alt (.one 11 (.one 13 (.one 14 (.front 15 (.one 16 .done))))) (.one 13 (.one 11 (.one 14 (.front 15 (.one 16 .done))))))) (.alt (.one 11 (.alt (.one 3 (.one 13 (.one 14 (.front 15 (.one 16 .done))))) (.one 13 (.alt (.one 3 (.one 14 (.front 15 (.one 16 .done)))) (.one 14 (.one 3 (.front 15 (.one 16 .done)))))))) (.one 13 (.alt (.one 3 (.one 11 (.one 14 (.front 15 (.one 16 .done))))) (.one 11 (.alt (.one 3 (.one 14 (.front 15 (.one 16 .done)))) (.one 14 (.one 3 (.front 15 (.one 16 .done)))))))))))) (.one 13 (.alt (.one 3 (.one 8 (.front 10 (.one 11 (.one 14 (.front 15 (.one 16 .done))))))) (.one 8 (.front 10 (.alt (.one 3 (.one 11 (.one 14 (.front 15 (.one 16 .done))))) (.one 11 (.alt (.one 3 (.one 14 (.front 15 (.one 16 .done)))) (.one 14 (.one 3 (.front 15 (.one 16 .done)))))))))))))))))))))))
def rowA (t k : Nat) (F : FamB (Int × List Int) CV) (j : Nat) : AV := if j < k then .sl 0 2 ((F.sizes j).map vSb) else if j = k then .sl (subT t k) 2 ((F.sizes j).map vSb) else .nil
def rowsF (N t k : Nat) (F : FamB (Int × List Int) CV) : List AV := (List.range N).map (rowA t k F)
def knownA (t : Nat) (F : FamB (Int × List Int) CV) : AV := .sl t 2 (F.known.map vV)
def famC (m : MD) (N t u k : Nat) (F : FamB (Int × List Int) CV) : List AV := cM m ++ [.so t (rowsF N t k F), knownA u F]
def insV : List CV -> CV -> List CV := insB cmpV
def addE (F : FamB (Int × List Int) CV) : ResB (Int × List Int) -> Int
 | .limit => 1
 | .blocked => 18
 | .ok s => if valB s ∈ F.known then 0 else if F.known.length = 256 then 1 else 0
structure FamOk (np : Nat) (F : FamB (Int × List Int) CV) : Prop where
 sort : SortB cmpV F.known
 few : F.known.length <= 256
 ok : ∀ c ∈ F.known, c.Ok
 small : ∀ j, (F.sizes j).length <= F.known.length
 sm : ∀ j, ∀ s ∈ F.sizes j, SmB np s
theorem val_ok {s : Int × List Int} (h : s.2.length <= 1000) : (valB s).Ok := by
 refine .mk _ _ (by simp; omega) fun x hx => ?_
 rcases List.mem_cons.1 hx with rfl | hx
 ·exact .mk _ _ (by simp) (fun y hy => by cases hy)
 ·obtain ⟨n, _, rfl⟩ := List.mem_map.1 hx
  exact .mk _ _ (by simp) (fun y hy => by cases hy)
theorem rowsF_ext {N t k : Nat} {F : FamB (Int × List Int) CV} {l : List AV} (hl : l.length = N) (h : ∀ j, j < N -> l[j]? = some (rowA t k F j)) : l = rowsF N t k F := by
 apply List.ext_getElem?
 intro j
 by_cases hj : j < N
 ·rw [h j hj, rowsF, List.getElem?_map, List.getElem?_range hj]; rfl
 ·rw [List.getElem?_eq_none (by omega), List.getElem?_eq_none (by simp [rowsF]; omega)]
@[go_sem] theorem rowsF_len {N t k : Nat} {F : FamB (Int × List Int) CV} : (rowsF N t k F).length = N := by simp [rowsF]
theorem rowsF_at {N t k j : Nat} {F : FamB (Int × List Int) CV} (h : j < N) : (rowsF N t k F)[j]? = some (rowA t k F j) := by
 rw [rowsF, List.getElem?_map, List.getElem?_range h]; rfl
theorem rowsF_map {N t t' k : Nat} {F : FamB (Int × List Int) CV} {f : AV -> AV} (h0 : f .nil = .nil) (h1 : ∀ x, f (.sl 0 2 x) = .sl 0 2 x) (h2 : ∀ x, f (.sl (subT t k) 2 x) = .sl (subT t' k) 2 x) : (rowsF N t k F).map f = rowsF N t' k F := by
 refine rowsF_ext (by rw [List.length_map, rowsF_len]) fun j hj => ?_
 rw [List.getElem?_map, rowsF_at hj, Option.map_some]
 unfold rowA
 by_cases h : j < k
 ·rw [if_pos h, if_pos h, h1]
 ·rw [if_neg h, if_neg h]
  by_cases h3 : j = k
  ·subst h3; rw [if_pos rfl, if_pos rfl, h2]
  ·rw [if_neg h3, if_neg h3, h0]
theorem rowsF_ren {N t k : Nat} {ts : List Nat} {F : FamB (Int × List Int) CV} (ht : t < 1048576) (hn : ts.length < 100) : (rowsF N t k F).map (renRow ts) = rowsF N (2 + ts.idxOf t) k F := by
 have hi : ts.idxOf t <= ts.length := List.idxOf_le_length
 refine rowsF_map rfl (fun x => rfl) fun x => ?_
 have h2 : 2 <= subT t k := by have := sub_big t k; omega
 simp only [renRow, h2, if_true, renT_sub ht (show 2 + ts.idxOf t < 1048576 by omega)]
theorem rows_add {N k : Nat} {F : FamB (Int × List Int) CV} {s : Int × List Int} {K : List CV} :
  (List.map (killRow 2 ∘ killRow (subT 2 k)) (rowsF N 2 k F)).set k (.sl (subT 2 k) 2 ((F.sizes k).map vSb ++ [.ag [.sc (.int .i64 s.1), .sl 0 1 (s.2.map vi)]]))
   = rowsF N 2 k ⟨fun j => if j = k then F.sizes j ++ [s] else F.sizes j, K⟩ := by
 refine rowsF_ext (by simp [rowsF_len]) fun j hj => ?_
 have hb := sub_big 2 k
 rw [List.getElem?_set]
 by_cases h : k = j
 ·subst h
  rw [if_pos rfl, if_pos (by simpa [rowsF_len] using hj)]
  unfold rowA
  simp [vSb, vi, vs]
 ·rw [if_neg h, List.getElem?_map, rowsF_at hj]
  have hz : ¬ (0 = subT 2 k) := by omega
  unfold rowA
  by_cases h3 : j < k
  ·simp [killRow, hz, h3, Ne.symm h]
  ·simp [killRow, h3, Ne.symm h]
set_option maxRecDepth 100000
set_option maxHeartbeats 8000000
theorem con_badd (m : MD) (r : RD) (l : List (Int × List Int)) (N k : Nat) (F : FamB (Int × List Int) CV) (hp : 1 <= m.places.length /\ m.places.length <= 1000) (hr : BrR m.places.length r) (hl : l.length = (premB r).length) (hs : ∀ s ∈ l, SmB m.places.length s)
  (hF : FamOk m.places.length F) (hk : k < N) :
  ConX Tryz.prog 82 [.pb 0 0, vi k, vRule r, .sl 0 2 (l.map vSb)] [famC m N 2 3 k F]
  fun x b => x = vi (addE F (appB m.places.length r l)) /\ b = [famC m N 2 3 k (addB valB insV F k (appB m.places.length r l)).1] := by
 have hap := con_bapply m r l hp hr hl hs
 refine ConX.intro Tryz.func82 rfl Tryz.ntmps82 Tryz.results82 (by kernel_rfl) (by simp) 1 (by simp) ?_
 rw [vRule_cR] at *
 have hrep : List.replicate 2 AV.any = [.any, .any] := rfl
 have hr1 : (rowsF N 2 k F).map (renRow [2]) = rowsF N 2 k F := rowsF_ren (by omega) (by simp)
 have hr2 : (rowsF N 2 k F).map (renRow [2, 3]) = rowsF N 2 k F := rowsF_ren (by omega) (by simp)
 have hkn : knownA 3 F = .sl 3 2 (F.known.map vV) := rfl
 cases hx : appB m.places.length r l with
 | limit =>
  rw [hx] at hap
  simp only [resA] at hap
  simp only [go_sem, famC, cM, cR, vss, hkn]
  refine DrawK.meet ⟨72, [(0, .pb 0 0), (1, vi k), (9, .pb 2 0), (10, vi 1)], [cM m ++ [.so 2 (rowsF N 2 k F), .sl 3 2 (F.known.map vV)], cR r, [vi 0, .nil]]⟩ ?_ ?_
  ·refine DrawK.news0 [(10, 2)] [2] [] 1 [] [] 11 (.one 11 (.one 12 .done)) (some (9, .alt (.one 9 (.one 11 (.one 12 .done))) (.one 11 (.one 9 (.one 12 .done))))) (cR r) mixed (by kernel_rfl) (by kernel_rfl) (by kernel_rfl) (by simp only [go_sem, cR]) (by simp only [go_sem]) ⟨by simp only [go_sem, cR], by simp only [go_sem, cR]⟩ ⟨by simp only [go_sem], by simp only [go_sem]⟩ ?_
   simp only [go_sem, hrep, cR]
   refine CallY.mk hap (by simp only [go_sem, vM, cM, cR, vss]) (by simp only [go_sem]) (.inl (by simp only [go_sem])) ?_
   simp only [go_sem, hrep]
  simp only [go_sem, cM, cR, vss]
  simp only [addE, addB, famC, cM, vss, hkn, hr2, List.cons_append, List.nil_append]
  exact ⟨trivial, rfl⟩
 | blocked =>
  rw [hx] at hap
  simp only [resA] at hap
  simp only [go_sem, famC, cM, cR, vss, hkn]
  refine DrawK.meet ⟨72, [(0, .pb 0 0), (1, vi k), (9, .pb 2 0), (10, vi 18)], [cM m ++ [.so 2 (rowsF N 2 k F), .sl 3 2 (F.known.map vV)], cR r, [vi 0, .nil]]⟩ ?_ ?_
  ·refine DrawK.news0 [(10, 2)] [2] [] 1 [] [] 11 (.one 11 (.one 12 .done)) (some (9, .alt (.one 9 (.one 11 (.one 12 .done))) (.one 11 (.one 9 (.one 12 .done))))) (cR r) mixed (by kernel_rfl) (by kernel_rfl) (by kernel_rfl) (by simp only [go_sem, cR]) (by simp only [go_sem]) ⟨by simp only [go_sem, cR], by simp only [go_sem, cR]⟩ ⟨by simp only [go_sem], by simp only [go_sem]⟩ ?_
   simp only [go_sem, hrep, cR]
   refine CallY.mk hap (by simp only [go_sem, vM, cM, cR, vss]) (by simp only [go_sem]) (.inl (by simp only [go_sem])) ?_
   simp only [go_sem, hrep]
  simp only [go_sem, cM, cR, vss]
  simp only [addE, addB, famC, cM, vss, hkn, hr2, List.cons_append, List.nil_append]
  exact ⟨trivial, rfl⟩
 | ok s =>
  rw [hx] at hap
  simp only [resA] at hap
  have hsm := app_sm hr hx
  have hvs := con_bvalue s (by rw [hsm.1]; omega)
  have hval : (valB s).Ok := val_ok (by rw [hsm.1]; omega)
  have hbs := con_bsearch F.known (valB s) hF.sort (by have := hF.few; omega) hF.ok hval
  have hpl := pos_le (cmp := cmpV) (valB s) F.known
  obtain ⟨c, hc⟩ : ∃ c, c = valB s := ⟨_, rfl⟩
  rw [<- hc] at hvs hbs hpl hval
  rw [vV_eq c] at hvs hbs
  simp only [go_sem, famC, cM, cR, vss, hkn]
  refine DrawK.meet ⟨72, [(0, .pb 0 0), (1, vi k), (9, .pb 2 0), (10, vi 0)], [cM m ++ [.so 2 (rowsF N 2 k F), .sl 3 2 (F.known.map vV)], cR r, [vi s.1, vs 0 s.2]]⟩ ?_ ?_
  ·refine DrawK.news0 [(10, 2)] [2] [] 1 [] [] 11 (.one 11 (.one 12 .done)) (some (9, .alt (.one 9 (.one 11 (.one 12 .done))) (.one 11 (.one 9 (.one 12 .done))))) (cR r) mixed (by kernel_rfl) (by kernel_rfl) (by kernel_rfl) (by simp only [go_sem, cR]) (by simp only [go_sem]) ⟨by simp only [go_sem, cR], by simp only [go_sem, cR]⟩ ⟨by simp only [go_sem], by simp only [go_sem]⟩ ?_
   simp only [go_sem, hrep, cR]
   refine CallY.mk hap (by simp only [go_sem, vM, cM, cR, vss]) (by simp only [go_sem, vSb]) (.inl (by simp only [go_sem])) ?_
   simp only [go_sem, hrep, vSb]
  simp only [go_sem, cM, cR, vss]
  refine CallU.free hvs (by simp only [go_sem]) (by simp only [go_sem, vSb]) ?_
  rintro z bx rfl
  simp only [go_sem]
  refine DrawK.walk 11 mixed (by kernel_rfl) ?_
  simp only [go_sem]
  refine CallY.mk hbs (by simp only [go_sem]) (by simp only [go_sem]) (.inr (by simp only [go_sem])) ?_
  by_cases hin : c ∈ F.known
  ·simp only [hin, decide_true]
   simp only [go_sem]
   have hin' : valB s ∈ F.known := hc ▸ hin
   simp only [addE, addB, hin', if_true, famC, cM, vss, hkn, hr2, List.cons_append, List.nil_append]
   exact ⟨trivial, rfl⟩
  simp only [hin, decide_false]
  have hin' : ¬ valB s ∈ F.known := hc ▸ hin
  by_cases h256 : F.known.length = 256
  ·have h256' : ((F.known.length : Int) == 256) = true := beq_iff_eq.2 (by omega)
   simp only [go_sem, h256']
   simp only [addE, addB, hin', h256, if_true, if_false, famC, cM, vss, hkn, hr2, List.cons_append, List.nil_append]
   exact ⟨trivial, rfl⟩
  have h256' : ((F.known.length : Int) == 256) = false := beq_eq_false_iff_ne.2 (by omega)
  have hci := con_insert0 (F.known.map vV) (.ag [vi c.n, .sl 0 2 (c.kids.map vV)]) (posB cmpV c F.known) (by rw [List.length_map]; exact hpl) (by rw [List.length_map]; have := hF.few; omega)
  simp only [go_sem, h256']
  refine DrawK.meet ⟨72, [(0, .pb 0 0), (1, vi k), (9, .pb 2 0)], [cM m ++ [.so 2 (rowsF N 2 k F), .sl 3458 2 ((insV F.known c).map vV)], cR r, [vi s.1, vs 0 s.2], [vi c.n, .sl 0 2 (c.kids.map vV)]]⟩ ?_ ?_
  ·refine DrawK.tree addTree mixed (by kernel_rfl) ?_
   unfold addTree
   simp only [go_sem]
   have hins : (F.known.map vV).take (posB cmpV c F.known) ++ .ag [vi c.n, .sl 0 2 (c.kids.map vV)] :: (F.known.map vV).drop (posB cmpV c F.known) = (insV F.known c).map vV := by
    unfold insV insB
    rw [List.map_append, List.map_cons, List.map_take, List.map_drop, vV_eq c]
   rw [hins] at hci
   refine andK_intro (andK_intro ?_ ?_) ?_
   ·refine CallU.lend hci (by simp only [go_sem]) (by simp only [go_sem]) ?_
    rintro z rfl
    simp only [go_sem, cM, cR, vss]
   ·simp only [go_sem]
    refine andK_intro ?_ ?_
    ·refine CallU.lend hci (by simp only [go_sem]) (by simp only [go_sem]) ?_
     rintro z rfl
     simp only [go_sem, cM, cR, vss]
    ·simp only [go_sem]
     refine CallU.lend hci (by simp only [go_sem]) (by simp only [go_sem]) ?_
     rintro z rfl
     simp only [go_sem, cM, cR, vss]
   ·simp only [go_sem]
    refine andK_intro (andK_intro ?_ ?_) ?_
    ·refine CallU.lend hci (by simp only [go_sem]) (by simp only [go_sem]) ?_
     rintro z rfl
     simp only [go_sem, cM, cR, vss]
    ·simp only [go_sem]
     refine CallU.lend hci (by simp only [go_sem]) (by simp only [go_sem]) ?_
     rintro z rfl
     simp only [go_sem, cM, cR, vss]
    ·simp only [go_sem]
     refine CallU.lend hci (by simp only [go_sem]) (by simp only [go_sem]) ?_
     rintro z rfl
     simp only [go_sem, cM, cR, vss]
  have hgk : (rowsF N 2 k F)[k]? = some (.sl (subT 2 k) 2 ((F.sizes k).map vSb)) := by rw [rowsF_at hk]; unfold rowA; rw [if_neg (by omega), if_pos rfl]
  simp only [go_sem, cM, cR, vss]
  have hkl : (F.sizes k).length <= 256 := by have := hF.small k; have := hF.few; omega
  have hro : roomFor ((F.sizes k).length + 1) 32 := by simp only [roomFor]; omega
  have e : (addB valB insV F k (.ok s)).1 = ⟨fun j => if j = k then F.sizes j ++ [s] else F.sizes j, insV F.known c⟩ := by
   simp only [addB, hin', if_false, h256, hc]
  have hup := rows_add (N := N) (k := k) (F := F) (s := s) (K := insV F.known c)
  rw [<- e] at hup
  have hkn2 : knownA 3 (addB valB insV F k (.ok s)).1 = .sl 3 2 ((insV F.known c).map vV) := by
   rw [e, knownA]
  have hre : addE F (.ok s) = 0 := by simp only [addE, hin', if_false, h256]
  generalize (addB valB insV F k (.ok s)).1 = F2 at hup hkn2 ⊢
  have hr3 : (rowsF N 2 k F2).map (renRow [2, 3458]) = rowsF N 2 k F2 := rowsF_ren (by omega) (by simp)
  refine DrawK.meet ⟨72, [], [cM m ++ [.so 2 (rowsF N 2 k F2), .sl 3458 2 ((insV F.known c).map vV)], cR r, [vi s.1, vs 0 s.2], [vi c.n, .sl 0 2 (c.kids.map vV)]]⟩ ?_ ?_
  ·refine DrawK.tree8 addTree11 mixed (by kernel_rfl) ?_
   unfold addTree11
   simp only [go_sem, hk, hgk, hro, hup, cM, cR, vss]
  simp only [go_sem, cM, cR, vss, hr3, hre, famC, hkn2, List.cons_append, List.nil_append]
end Go.AM
namespace Go.AM
section
variable {α β : Type}
end
section
variable {α β : Type} [DecidableEq β] {val : α -> β} {cmp : β -> β -> Int}
theorem add_len256 {F : FamB α β} (k : Nat) (h : F.known.length <= 256) (x : ResB α) : (addB val (insB cmp) F k x).1.known.length <= 256 := by
 unfold addB
 split
 ·exact h
 ·exact h
 ·rename_i s
  split
  ·exact h
  ·split
   ·exact h
   ·have e := ins_len (cmp := cmp) F.known (val s)
    show (insB cmp F.known (val s)).length <= 256
    omega
end
section
variable {α β : Type} [DecidableEq β] {val : α -> β} {cmp : β -> β -> Int}
end
section
variable {β : Type} [DecidableEq β] (cmp : β -> β -> Int)
variable {cmp}
end
section
variable {α : Type}
variable [DecidableEq α] (cmp : α -> α -> Int)
variable {cmp}
end
end Go.AM
