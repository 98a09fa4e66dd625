/-
  what this claim needs beside the texts ahead
-/
import Derived.Test.Ytlcckmmibeddeaag11
namespace Go.AM
open Go.RowKit
section
variable {P : Program}
theorem ConW.intro {f : FuncId} {fn : Func} {c : Code} {rs : List ResultVar} {n : Nat} {args : List AV} {post : AV -> List AV -> Prop} (hf : P.funcs[f]? = some fn) (hb : fn.body = some c) (hn : fn.ntmps = n) (hrs : fn.results = rs.toArray)
  (hname : (fn.name == "runtime.NumGoroutine") = false) (hargs : args.length <= n) (h : wpA P c (endQW P rs post) ⟨n, argT 0 args, [args]⟩) : ConW P f args post := by
 refine ⟨⟨fn, hf, hname, by simp [hb]⟩, fun G w vs hg hbx hv => ?_⟩
 subst hn
 refine calls_of_wp hf hb (wp_mono (wpA_sound (G0 := ⟨G, fun i => if i = 0 then some vs.toList else none⟩) (w0 := w) trivial c _ ⟨fn.ntmps, argT 0 args, [args]⟩ G _ w h ?_) ?_)
 ·have hsz : args.length = vs.size := by have := hv.1; simpa using this
  refine { good := hg, slots := fun s => ?_, boxes := ⟨fun i vs hv => ?_, fun i cs h => ?_⟩, blt := fun b i h => absurd h (hbx b i), size := ?_, defs := rfl, os := rfl, tape := rfl, output := rfl, hsize := Nat.le_refl _, stat := fun _ _ _ => rfl, keep := fun _ _ _ _ => rfl }
  ·simp only [St.get, argT_look, Nat.zero_le, if_true, Nat.sub_zero]
   cases hs : args[s]? with
   | none => exact .froz (.any _)
   | some x =>
    have hlt : s < vs.toList.length := by rw [<- hv.1]; exact (List.getElem?_eq_some_iff.1 hs).1
    have := hv.2 s x _ hs (List.getElem?_eq_getElem hlt)
    have e : (vs ++ Array.replicate (fn.ntmps - vs.size) undef).getD s undef = vs.toList[s] := by
     have hlt' : s < vs.size := by simpa using hlt
     simp [Array.getD_eq_getD_getElem?, Array.getElem?_append, hlt']
    simp only [Option.getD_some]
    rw [e]; exact this
  ·simp only at hv
   split at hv
   ·rename_i h0; simp [h0]
   ·cases hv
  ·cases i with
   | zero =>
    simp at h; subst h
    exact .inr (.inl ⟨fun b => hbx b 0, vs.toList, by simp, hv⟩)
   | succ i => simp at h
  ·simp; try omega
 ·rintro e a' w' ⟨σ', G', hq, hs⟩
  have fin : endW P rs post σ' ->
    a'.defers = [] /\ ∃ v, (results fn a'.tmps).run P w' = .ok v w' /\ ∃ v_1 r ys G', Ending.returned v = .returned v_1 /\ post r ys /\ VRel G' w' r v_1 /\ PW (VRel G' w') ys vs.toList /\ Good G' w' /\ (∀ b i, G' b ≠ .box i) /\
     w'.os = w.os /\ w'.tape = w.tape /\ w'.output = w.output /\ w.heap.size <= w'.heap.size /\ (∀ b, b < w.heap.size -> (∀ t, G b ≠ .tag t) -> G' b = G b) /\ (∀ b, b < w.heap.size -> (∀ t, G b ≠ .tag t) -> w'.heap[b]? = w.heap[b]?) := by
   intro hq
   obtain ⟨v, l, h1, ⟨ys, rest, hbxs, hpb, htl, hpost⟩, hr⟩ := res_sound (rs := rs) hrs hs hq
   have hys : PW (VRel G' w') ys vs.toList := by
    rcases hs.boxes.cell 0 ys (by rw [hbxs]; rfl) with ⟨h0, _⟩ | ⟨_, vs', h0, hp⟩ | ⟨h0, _⟩
    ·simp at h0
    ·simp at h0; subst h0; exact hp
    ·simp at h0
   have hall : ∀ x ∈ tupA l :: ys, x.allLeaf (fun y => tagsIn (tagss (tupA l :: ys)) y && pbLt 0 y) = true := fun x hx =>
    allLeaf_and _ _ _ (tags_in _ x (tagss_mem hx)) (allLeafs_mem hpb x hx)
   refine ⟨hs.defs, v, h1, v, _, _, endG (tagss (tupA l :: ys)) 0 G', rfl, hpost, hr.endG (hall _ (by simp)), ?_, hs.good.endG htl, ?_, hs.os, hs.tape, hs.output, hs.hsize, ?_, fun b hb hnt => hs.keep b hb (hbx b) hnt⟩
   ·refine ⟨by rw [mapTops_eq]; simpa using hys.1, fun j x u hx hu => ?_⟩
    rw [mapTops_eq, List.getElem?_map] at hx
    cases hj : ys[j]? with
    | none => simp [hj] at hx
    | some y =>
     simp [hj] at hx; subst hx
     exact (hys.2 j y u hj hu).endG (hall y (by simp [List.mem_of_getElem? hj]))
   ·intro b i hbi
    unfold endG at hbi
    cases hg : G' b <;> simp only [hg] at hbi
    ·cases hbi
    ·split at hbi <;> cases hbi
    ·rw [if_neg (by omega)] at hbi; cases hbi
    ·cases hbi
   ·intro b hb hnt
    have h2 : G' b = G b := hs.stat b hb hnt
    unfold endG
    rw [h2]
    cases hg : G b with
    | stable => rfl
    | junk => rfl
    | tag t => exact absurd hg (hnt t)
    | box i => exact absurd hg (hbx b i)
  cases e with
  | normal => exact fin hq
  | ret => exact fin hq
  | _ => exact hq.elim
end
end Go.AM
namespace Go.AM
open Go.RowKit
section
variable {P : Program}
variable {n : Nat} {t : List (Nat × AV)} {b : List (List AV)}
variable {d : Nat} {T : TypeId} {pos : String} {af : Array Edge} {g : Option (Nat × Bool)} {K : St -> Prop}
@[go_sem] theorem wpOp_makeMap {T' : TypeId} : wpOp P ⟨some d, .makeMap T' none, T, pos, af, g⟩ ⟨n, t, b⟩ K = andK (d < n) (andK (St.free ⟨n, t, b⟩ d = true) (evMakeMap P d T' fun r => K (St.put ⟨n, t, b⟩ (some d) r))) := by simp [wpOp, wpAt, evOp, needsFresh, andK]
@[go_sem] theorem onMap_some (a b : TypeId) (k : TypeId -> TypeId -> Prop) : onMap (some (.map a b)) k = k a b := by
 unfold onMap
 apply propext
 constructor
 ·rintro ⟨a', b', h, hk⟩; cases h; exact hk
 ·intro h; exact ⟨a, b, rfl, h⟩
@[go_sem] theorem evMakeMap_eq {T' : TypeId} {K : AV -> Prop} : evMakeMap P d T' K = onMap (P.underlying T') fun k e => K (.mp (64 * (d + 1)) P k e (.map [])) := by
 unfold evMakeMap onMap
 apply propext
 constructor
 ·intro h
  split at h
  ·rename_i k e hT; exact ⟨k, e, hT, h⟩
  ·exact h.elim
 ·rintro ⟨k, e, hT, h⟩
  rw [hT]; exact h
end
end Go.AM
namespace Go.AM
open Go.RowKit
section
variable {P : Program} {n : Nat} {t : List (Nat × AV)} {b : List (List AV)}
section
variable {T : TypeId} {k k' : IntKind} {x y : Int} {K : Value -> Prop}
end
section
variable {T : TypeId} {K : AV -> Prop}
end
section
variable {T T' : TypeId} {d : Nat} {K : St -> Prop} {σ : St}
end
@[go_sem] theorem finW_cons {post : AV -> List AV -> Prop} {ys : List AV} {r : List (List AV)} {l : List AV} : finW post (ys :: r) l = andK (allLeafs (pbLt 0) (tupA l :: ys) = true) (andK ((tagss (tupA l :: ys)).length < 1000) (post ((tupA l).mapTop (renLeaf (tagss (tupA l :: ys)))) (mapTops (renLeaf (tagss (tupA l :: ys))) ys))) := by
 unfold finW andK
 apply propext
 constructor
 ·rintro ⟨ys', r', h, h1, h2, h3⟩
  cases h; exact ⟨h1, h2, h3⟩
 ·rintro ⟨h1, h2, h3⟩
  exact ⟨ys, r, rfl, h1, h2, h3⟩
end
end Go.AM
namespace Go.AM
open Go.RowKit
section
variable {P : Program} {n : Nat} {t : List (Nat × AV)} {b : List (List AV)}
variable {d : Nat} {T : TypeId} {pos : String} {af : Array Edge} {g : Option (Nat × Bool)} {K : St -> Prop}
@[go_sem] theorem headOp_lookup {T' : TypeId} {x y : Operand} : headOp P ⟨some d, .lookup T' x y false, T, pos, af, g⟩ ⟨n, t, b⟩ K = andK (d < n) (evLookup P T' (St.ev ⟨n, t, b⟩ x) (St.ev ⟨n, t, b⟩ y) fun r => K (St.put ⟨n, t, b⟩ (some d) r)) := by simp [headOp, evOp, andK]
theorem CallU.back {f : FuncId} {args args' : List AV} {post : AV -> List AV -> Prop} {σ : St} (hcon : ConW P f args' post) (hc : σ.free d = true /\ d < σ.n /\ dedup (pbss args) = [] /\ allLeafs (pbLt 0) args = true /\ (tagss args).length < 60) (ha : mapTops (renLeaf (tagss args)) args = args')
  (hk : ∀ r ys, post r ys -> r.allLeaf lt64c = true /\ allLeafs lt64c ys = true /\ posG (giveOf args (mapTops (shiftLeaf (64 * (d + 1))) ys)) = true /\
   K ((σ.map (giveLeaf (tagss args) (giveOf args (mapTops (shiftLeaf (64 * (d + 1))) ys)))).put (some d) (r.shift (64 * (d + 1))))) : CallU P f args d σ K := by
 unfold CallU
 rw [hc.2.2.1]
 exact .inr (.inr (.inr (.inl ⟨hc.1, hc.2.1, hc.2.2.2.1, hc.2.2.2.2, by rw [ha]; exact ⟨hcon.1, fun G w vs h1 h2 h3 => (hcon.2 G w vs h1 h2 h3).mono fun e w' ⟨v, r, ys, G', he, hq, rest⟩ => ⟨v, r, ys, G', he, hk r ys hq, rest⟩⟩⟩)))
end
end Go.AM
namespace Go.AM
open Go.RowKit
theorem Rk_succ2 (c k : Nat) : Rk c (k + 1 + 1) = Rk c k ++ [List.replicate c .any, List.replicate c .any] := by rw [Rk_succ, Rk_succ, List.append_assoc]; rfl
@[go_sem] theorem leB_Rk2 {k : Nat} {x y z u : AV} : leB (Rk 2 k ++ [[x, y], [z, u]]) (Rk 2 k ++ [List.replicate 2 .any, List.replicate 2 .any]) = True := eq_true (leB_RkA ⟨⟨leV_any _, leV_any _, trivial⟩, ⟨leV_any _, leV_any _, trivial⟩, trivial⟩)
theorem app_at1 {α : Type} {B L : List α} {n : Nat} (h : B.length = n) : (B ++ L)[n + 1]? = L[1]? := app_at (i := 1) h
theorem app_set1 {α : Type} {B L : List α} {n : Nat} {z : α} (h : B.length = n) : (B ++ L).set (n + 1) z = B ++ L.set 1 z := by
 rw [List.set_append_right _ _ (by omega), h, Nat.add_sub_cancel_left]
end Go.AM
namespace Go.AM
open Go Go.Proofs Go.RowKit
def ordI (a b : Int) : Int := if a < b then -1 else if b < a then 1 else 0
theorem ordI_zero {a b : Int} : ordI a b = 0 ↔ a = b := by unfold ordI; split <;> (try split) <;> omega
def orF (l : List Int) : Int := (l.find? (· != 0)).getD 0
end Go.AM
namespace Go.AM
open Go.RowKit
variable {P : Program}
def CallYF (P : Program) (f : AV) (args : List AV) (d : Nat) (σ : St) (K : St -> Prop) : Prop :=
 match f with
 | .fn fid caps => CallY P fid (args ++ caps) d σ K
 | _ => False
@[congr] theorem CallYF_congr {f f' : AV} {args args' : List AV} {d : Nat} {K : St -> Prop} {σ σ' : St} (h0 : mkd f = f') (h1 : args = args') (h : σ = σ') : CallYF P f args d σ K = CallYF P f' args' d σ' K := by subst_vars; rfl
@[go_sem] theorem CallYF_fn {f : FuncId} {caps args : List AV} {d : Nat} {σ : St} {K : St -> Prop} : CallYF P (.fn f caps) args d σ K = CallY P f (args ++ caps) d σ K := rfl
@[go_sem] theorem headOp_callF {d : Nat} {T : TypeId} {pos : String} {af : Array Edge} {g : Option (Nat × Bool)} {n : Nat} {t : List (Nat × AV)} {b : List (List AV)} {K : St -> Prop} {f : Tmp} {args : List Operand} {As : Array TypeId} : headOp P ⟨some d, .call ⟨.value (.tmp f), args.toArray, As⟩, T, pos, af, g⟩ ⟨n, t, b⟩ K = andK (d < n) (CallYF P (lookT t f) (evAll ⟨n, t, b⟩ args) d ⟨n, t, b⟩ K) := by
 simp only [headOp, andK, St.ev, St.get, evAll_eq, CallYF]; rfl
end Go.AM
namespace Go.AM
open Go Go.Proofs Go.RowKit
def vPT (p : Int × Int) : AV := .ag [vi p.1, vi p.2, .nil, .nil]
def flatT (t : Nat) (ps : List (Int × Int)) : AV := .ag [vi 3, vi 0, .nil, .sl t 4 (ps.map vPT)]
attribute [go_sem] vPT flatT
end Go.AM
namespace Go.AM
theorem leq_refl {p : List TmD} (hp : OkP p) : leqP p p = true := (leq_iff hp hp).2 fun _ h => h
theorem leq_trans {p q r : List TmD} (hp : OkP p) (hq : OkP q) (hr : OkP r) (h1 : leqP p q = true) (h2 : leqP q r = true) : leqP p r = true :=
 (leq_iff hp hr).2 fun w hw => (leq_iff hq hr).1 h2 w ((leq_iff hp hq).1 h1 w hw)
end Go.AM
namespace Go.AM
def adjT (t u : TmD) : Prop := ¬ (u.star = true /\ witT t u = true) /\ ¬ (t.star = true /\ witT u t = true)
def redP : List TmD -> Prop
 | [] => True
 | [t] => t.ls ≠ []
 | t :: u :: p => t.ls ≠ [] /\ adjT t u /\ redP (u :: p)
theorem redP.head {t : TmD} {p : List TmD} (h : redP (t :: p)) : t.ls ≠ [] := by
 cases p with
 | nil => exact h
 | cons u p => exact h.1
theorem redP.tail {t : TmD} {p : List TmD} (h : redP (t :: p)) : redP p := by
 cases p with
 | nil => trivial
 | cons u p => exact h.2.2
theorem idle_tail {t : TmD} {p : List TmD} {i : Nat} (h : idleP p i = true) : idleP (t :: p) (i + 1) = true := by
 unfold idleP at h ⊢
 simp only [Bool.or_eq_true, Bool.and_eq_true, decide_eq_true_eq] at h ⊢
 rcases h with (h | h) | h
 ·exact .inl (.inl h)
 ·obtain ⟨j, rfl⟩ : ∃ j, i = j + 1 := ⟨i - 1, by omega⟩
  exact .inl (.inr ⟨by omega, h.2⟩)
 ·exact .inr ⟨by simp only [List.length_cons]; omega, h.2⟩
theorem red_of : ∀ {p : List TmD}, (∀ i, i < p.length -> idleP p i = false) -> redP p
 | [], _ => trivial
 | [t], h => by
  have := h 0 (by simp)
  intro hn
  unfold idleP at this
  simp [hn] at this
 | t :: u :: p, h => by
  have h0 := h 0 (by simp)
  have h1 := h 1 (by simp)
  have ht : redP (u :: p) := red_of fun i hi => by
   cases hb : idleP (u :: p) i with
   | false => rfl
   | true => rw [<- h (i + 1) (by simp only [List.length_cons] at hi ⊢; omega)]; exact (idle_tail hb).symm
  refine ⟨fun hn => ?_, ⟨fun hn => ?_, fun hn => ?_⟩, ht⟩
  ·unfold idleP at h0; simp [hn] at h0
  ·unfold idleP at h0; simp [hn.1, hn.2] at h0
  ·unfold idleP at h1; simp [hn.1, hn.2] at h1
theorem normN_red : ∀ (n : Nat) (p : List TmD), p.length <= n -> redP (normN n p)
 | 0, p, h => by
  have : p = [] := List.length_eq_zero_iff.1 (by omega)
  subst this; trivial
 | n + 1, p, h => by
  rw [normN]
  split
  ·rename_i hn
   refine red_of fun i hi => ?_
   have := List.find?_eq_none.1 hn i (List.mem_range.2 hi)
   simpa using this
  ·rename_i i hi
   have h2 := List.mem_range.1 (List.mem_of_find?_eq_some hi)
   exact normN_red n _ (by rw [List.length_eraseIdx_of_lt h2]; omega)
theorem normP_red (p : List TmD) : redP (normP p) := normN_red _ p (Nat.le_refl _)
theorem red_suffix : ∀ (n : Nat) (q : List TmD) (u : TmD) (s a : List TmD), q.length <= n -> q = a ++ s -> redP (u :: q) -> OkP (u :: q) -> leqP (u :: q) s = false
 | n, q, u, [], a, _, _, hr, _ => by
  rw [leqP_none]
  have := hr.head
  cases h : u.ls with
  | nil => exact absurd h this
  | cons x l => rfl
 | 0, q, u, v :: s, a, hn, hq, _, _ => by
  subst hq
  simp only [List.length_append, List.length_cons] at hn
  omega
 | n + 1, q, u, v :: s, a, hn, hq, hr, hok => by
  have hvq : v ∈ q := by rw [hq]; simp
  rw [leqP_cons, if_neg (by rw [nil_iff]; exact hr.head)]
  cases hw : witT u v with
  | false =>
   rw [if_pos (show (!false) = true from rfl)]
   exact red_suffix (n + 1) q u s (a ++ [v]) hn (by rw [hq]; simp) hr hok
  | true =>
   rw [if_neg (by simp)]
   by_cases hs : v.star = true
   ·rw [if_pos hs]
    cases a with
    | nil =>
     subst hq
     exact absurd ⟨hs, hw⟩ hr.2.1.1
    | cons c a =>
     subst hq
     simp only [List.cons_append, List.length_cons] at hn
     exact red_suffix n (a ++ v :: s) c (v :: s) a (by omega) rfl hr.tail hok.tail
   ·rw [if_neg hs]
    cases a with
    | nil =>
     subst hq
     simp only [List.nil_append, List.length_cons] at hn
     exact red_suffix n s v s [] (by omega) rfl hr.tail hok.tail
    | cons c a =>
     subst hq
     simp only [List.cons_append, List.length_cons] at hn
     exact red_suffix n (a ++ v :: s) c s (a ++ [v]) (by omega) (by simp) hr.tail hok.tail
termination_by n _q _u s => (n, s.length)
theorem asc_same : ∀ {a b : List Int}, ascI a = true -> ascI b = true -> (∀ x ∈ a, x ∈ b) -> (∀ x ∈ b, x ∈ a) -> a = b
 | [], [], _, _, _, _ => rfl
 | [], y :: b, _, _, _, h => by have := h y (by simp); cases this
 | x :: a, [], _, _, h, _ => by have := h x (by simp); cases this
 | x :: a, y :: b, ha, hb, h1, h2 => by
  obtain ⟨a1, a2⟩ := asc_lt ha
  obtain ⟨b1, b2⟩ := asc_lt hb
  have e : x = y := by
   rcases List.mem_cons.1 (h1 x (by simp)) with e | hx
   ·exact e
   ·rcases List.mem_cons.1 (h2 y (by simp)) with e | hy
    ·exact e.symm
    ·have := b1 x hx; have := a1 y hy; omega
  subst e
  have key : ∀ {c d : List Int}, (∀ y ∈ c, x < y) -> (∀ z ∈ x :: c, z ∈ x :: d) -> ∀ z ∈ c, z ∈ d := by
   intro c d hc hcd z hz
   rcases List.mem_cons.1 (hcd z (by simp [hz])) with e | h
   ·have := hc z hz; omega
   ·exact h
  rw [asc_same a2 b2 (key a1 h1) (key b1 h2)]
theorem wit_same {t u : TmD} (ht : t.Ok) (hu : u.Ok) (htn : t.ls ≠ []) (hun : u.ls ≠ []) (h1 : witT t u = true) (h2 : witT u t = true) : t = u := by
 cases hts : t.star with
 | true =>
  cases hus : u.star with
  | true =>
   have := asc_same ht.asc hu.asc ((wit_star hus).1 h1) ((wit_star hts).1 h2)
   cases t; cases u; simp_all
  | false =>
   obtain ⟨y, hy⟩ := hu.one hus
   have := ((wit_one hus hy ht htn).1 h1).1
   rw [hts] at this; cases this
 | false =>
  obtain ⟨y, hy⟩ := ht.one hts
  obtain ⟨h3, h4⟩ := (wit_one hts hy hu hun).1 h2
  cases t; cases u; simp_all
theorem red_unique : ∀ (p q : List TmD), OkP p -> OkP q -> redP p -> redP q -> leqP p q = true -> leqP q p = true -> p = q
 | [], [], _, _, _, _, _, _ => rfl
 | [], u :: q, _, _, _, hr, _, h => by
  rw [leqP_none, Bool.and_eq_true, nil_iff] at h
  exact absurd h.1 hr.head
 | t :: p, [], _, _, hr, _, h, _ => by
  rw [leqP_none, Bool.and_eq_true, nil_iff] at h
  exact absurd h.1 hr.head
 | t :: p, u :: q, hp, hq, hrp, hrq, h1, h2 => by
  have key : ∀ (t u : TmD) (p q : List TmD), OkP (t :: p) -> OkP (u :: q) -> redP (t :: p) -> redP (u :: q) -> leqP (t :: p) (u :: q) = true -> leqP (u :: q) (t :: p) = true -> witT t u = true := by
   intro t u p q hp hq hrp hrq h1 h2
   cases hw : witT t u with
   | true => rfl
   | false =>
    rw [leqP_cons, if_neg (by rw [nil_iff]; exact hrp.head), hw, if_pos (show (!false) = true from rfl)] at h1
    have := leq_trans hq hp hq.tail h2 h1
    rw [red_suffix _ q u q [] (Nat.le_refl _) rfl hrq hq] at this
    cases this
  have w1 := key t u p q hp hq hrp hrq h1 h2
  have w2 := key u t q p hq hp hrq hrp h2 h1
  have e := wit_same hp.head hq.head hrp.head hrq.head w1 w2
  subst e
  rw [leqP_cons, if_neg (by rw [nil_iff]; exact hrp.head), w1, if_neg (by simp)] at h1
  rw [leqP_cons, if_neg (by rw [nil_iff]; exact hrp.head), w1, if_neg (by simp)] at h2
  have recu := red_unique p q hp.tail hq.tail hrp.tail hrq.tail
  by_cases hs : t.star = true
  ·rw [if_pos hs] at h1 h2
   have key2 : ∀ (p q : List TmD), redP (t :: p) -> leqP p (t :: q) = true -> leqP p q = true := by
    intro p q hr h
    cases p with
    | nil => exact leqP_nil _
    | cons c p =>
     have hc : witT c t = false := by
      cases hb : witT c t with
      | false => rfl
      | true => exact absurd ⟨hs, hb⟩ hr.2.1.2
     rw [leqP_cons, if_neg (by rw [nil_iff]; exact hr.tail.head), hc, if_pos (show (!false) = true from rfl)] at h
     exact h
   rw [recu (key2 p q hrp h1) (key2 q p hrq h2)]
  ·rw [if_neg hs] at h1 h2
   rw [recu h1 h2]
theorem red_eq {p q : List TmD} (hp : OkP p) (hq : OkP q) (hrp : redP p) (hrq : redP q) (h : EqP p q) : p = q :=
 red_unique p q hp hq hrp hrq ((leq_iff hp hq).2 fun w hw => by rw [<- h w]; exact hw) ((leq_iff hq hp).2 fun w hw => by rw [h w]; exact hw)
theorem normP_id {p : List TmD} (h : OkP p) : normP (normP p) = normP p := (red_eq (normP_ok h) (normP_ok (normP_ok h)) (normP_red p) (normP_red _) (normP_eq _)).symm
theorem mem_sub : ∀ (n : Nat) (r : List TmD) {a b : List Int}, r.length + b.length <= n -> a.Sublist b -> memP r b = true -> memP r a = true
 | n, r, _, _, _, .slnil, h => h
 | n, r, _, x :: b, hn, .cons _ hs, h => by
  simp only [List.length_cons] at hn
  match n, hn with
  | n + 1, hn => exact mem_sub n r (by omega) hs (memP_drop h)
 | n, [], _, x :: b, _, .cons_cons _ hs, h => by rw [memP_none] at h; cases h
 | n, u :: r, x :: a, _ :: b, hn, .cons_cons _ hs, h => by
  simp only [List.length_cons] at hn
  match n, hn with
  | n + 1, hn =>
   rw [memP_cons] at h ⊢
   split at h
   ·rename_i hx
    rw [if_pos hx]
    split at h
    ·rename_i h2
     rw [if_pos h2]; exact mem_sub n (u :: r) (by simp only [List.length_cons]; omega) hs h
    ·rename_i h2
     rw [if_neg h2]; exact mem_sub n r (by omega) hs h
   ·rename_i hx
    rw [if_neg hx]; exact mem_sub n r (by simp only [List.length_cons]; omega) (.cons_cons x hs) h
theorem memP_sub {r : List TmD} {a b : List Int} (h : a.Sublist b) (hm : memP r b = true) : memP r a = true := mem_sub _ r (Nat.le_refl _) h hm
theorem mem_dir : ∀ (n : Nat) (p : List TmD) (v w : List Int), p.length + v.length + w.length <= n -> OkP p -> memP p v = true -> memP p w = true -> ∃ z, memP p z = true /\ v.Sublist z /\ w.Sublist z
 | n, p, [], w, _, _, _, hw => ⟨w, hw, List.nil_sublist _, List.Sublist.refl _⟩
 | n, p, x :: v, [], _, _, hv, _ => ⟨x :: v, hv, List.Sublist.refl _, List.nil_sublist _⟩
 | n, [], x :: v, _, _, _, hv, _ => by rw [memP_none] at hv; cases hv
 | 0, u :: q, x :: v, y :: w, hn, _, _, _ => by simp only [List.length_cons] at hn; omega
 | n + 1, u :: q, x :: v, y :: w, hn, hok, hv, hw => by
  simp only [List.length_cons] at hn
  by_cases hx : x ∈ u.ls
  ·by_cases hs : u.star = true
   ·rw [memP_in hx hs] at hv
    obtain ⟨z, h1, h2, h3⟩ := mem_dir n (u :: q) v (y :: w) (by simp only [List.length_cons]; omega) hok hv hw
    exact ⟨x :: z, by rw [memP_in hx hs]; exact h1, h2.cons_cons x, h3.cons x⟩
   ·have hs : u.star = false := by simpa using hs
    rw [memP_one hx hs] at hv
    by_cases hy : y ∈ u.ls
    ·rw [memP_one hy hs] at hw
     obtain ⟨c, hc⟩ := hok.head.one hs
     rw [hc, List.mem_singleton] at hx hy
     subst hx; subst hy
     obtain ⟨z, h1, h2, h3⟩ := mem_dir n q v w (by omega) hok.tail hv hw
     exact ⟨y :: z, by rw [memP_one (by rw [hc]; simp) hs]; exact h1, h2.cons_cons y, h3.cons_cons y⟩
    ·rw [memP_out hy] at hw
     obtain ⟨z, h1, h2, h3⟩ := mem_dir n q v (y :: w) (by simp only [List.length_cons]; omega) hok.tail hv hw
     exact ⟨x :: z, by rw [memP_one hx hs]; exact h1, h2.cons_cons x, h3.cons x⟩
  ·rw [memP_out hx] at hv
   by_cases hy : y ∈ u.ls
   ·by_cases hs : u.star = true
    ·rw [memP_in hy hs] at hw
     obtain ⟨z, h1, h2, h3⟩ := mem_dir n (u :: q) (x :: v) w (by simp only [List.length_cons]; omega) hok (memP_put u hv) hw
     exact ⟨y :: z, by rw [memP_in hy hs]; exact h1, h2.cons y, h3.cons_cons y⟩
    ·have hs : u.star = false := by simpa using hs
     rw [memP_one hy hs] at hw
     obtain ⟨z, h1, h2, h3⟩ := mem_dir n q (x :: v) w (by simp only [List.length_cons]; omega) hok.tail hv hw
     exact ⟨y :: z, by rw [memP_one hy hs]; exact h1, h2.cons y, h3.cons_cons y⟩
   ·rw [memP_out hy] at hw
    obtain ⟨z, h1, h2, h3⟩ := mem_dir n q (x :: v) (y :: w) (by simp only [List.length_cons]; omega) hok.tail hv hw
    exact ⟨z, memP_put u h1, h2, h3⟩
theorem leq_union {p : List TmD} (hp : OkP p) : ∀ {l : List (List TmD)}, (∀ q ∈ l, OkP q) -> (∀ q ∈ l, leqP p q = false) -> ∃ w, memP p w = true /\ ∀ q ∈ l, memP q w = false
 | [], _, _ => ⟨[], memP_nil _, fun q hq => by cases hq⟩
 | q :: l, hl, h => by
  obtain ⟨v, h1, h2⟩ := leq_union hp (l := l) (fun q hq => hl q (by simp [hq])) (fun q hq => h q (by simp [hq]))
  obtain ⟨w, h3, h4⟩ := leq_witness _ p q (Nat.le_refl _) hp (hl q (by simp)) (h q (by simp))
  obtain ⟨z, h5, h6, h7⟩ := mem_dir _ p v w (Nat.le_refl _) hp h1 h3
  refine ⟨z, h5, fun r hr => ?_⟩
  cases hb : memP r z with
  | false => rfl
  | true =>
   rcases List.mem_cons.1 hr with rfl | hr
   ·rw [memP_sub h7 hb] at h4; cases h4
   ·have := h2 r hr; rw [memP_sub h6 hb] at this; cases this
theorem leq_any {p : List TmD} (hp : OkP p) {l : List (List TmD)} (hl : ∀ q ∈ l, OkP q) (h : ∀ w, memP p w = true -> anyP l w = true) : ∃ q ∈ l, leqP p q = true := by
 refine Classical.byContradiction fun hn => ?_
 obtain ⟨w, h1, h2⟩ := leq_union hp hl fun q hq => by
  cases hb : leqP p q with
  | false => rfl
  | true => exact absurd ⟨q, hq, hb⟩ hn
 have := h w h1
 unfold anyP at this
 rw [List.any_eq_true] at this
 obtain ⟨q, hq, hb⟩ := this
 rw [h2 q hq] at hb; cases hb
structure MaxP (l : List (List TmD)) : Prop where
 ok : ∀ p ∈ l, OkP p
 red : ∀ p ∈ l, redP p
 apart : ∀ p ∈ l, ∀ q ∈ l, leqP p q = true -> p = q
theorem max_sub {a b : List (List TmD)} (ha : MaxP a) (hb : MaxP b) (h : ∀ w, anyP a w = anyP b w) : ∀ p ∈ a, p ∈ b := by
 intro p hp
 have key : ∀ {a b : List (List TmD)}, (∀ w, anyP a w = anyP b w) -> MaxP a -> MaxP b -> ∀ p ∈ a, ∃ q ∈ b, leqP p q = true := by
  intro a b h ha hb p hp
  refine leq_any (ha.ok p hp) hb.ok fun w hw => ?_
  rw [<- h w]
  unfold anyP
  rw [List.any_eq_true]; exact ⟨p, hp, hw⟩
 obtain ⟨q, hq, h1⟩ := key h ha hb p hp
 obtain ⟨r, hr, h2⟩ := key (fun w => (h w).symm) hb ha q hq
 have := ha.apart p hp r hr (leq_trans (ha.ok p hp) (hb.ok q hq) (ha.ok r hr) h1 h2)
 subst this
 rw [red_unique p q (ha.ok p hp) (hb.ok q hq) (ha.red p hp) (hb.red q hq) h1 h2]
 exact hq
end Go.AM
namespace Go.AM
theorem any_nil (w : List Int) : anyP [] w = false := rfl
theorem any_app (a b : List (List TmD)) (w : List Int) : anyP (a ++ b) w = (anyP a w || anyP b w) := by unfold anyP; rw [List.any_append]
theorem any_iff {l : List (List TmD)} {w : List Int} : anyP l w = true ↔ ∃ p ∈ l, memP p w = true := by unfold anyP; rw [List.any_eq_true]
theorem insM_ok {out : List (List TmD)} {p : List TmD} (h : MaxP out) (hp : OkP p) (hr : redP p) : MaxP (insM out p) /\ ∀ w, anyP (insM out p) w = (anyP out w || memP p w) := by
 unfold insM
 split
 ·rename_i hc
  rw [List.any_eq_true] at hc
  obtain ⟨q, hq, hl⟩ := hc
  refine ⟨h, fun w => ?_⟩
  cases hw : memP p w with
  | false => rw [Bool.or_false]
  | true => rw [Bool.or_true, any_iff]; exact ⟨q, hq, (leq_iff hp (h.ok q hq)).1 hl w hw⟩
 ·rename_i hc
  have hc : ∀ q ∈ out, leqP p q = false := fun q hq => by
   cases hb : leqP p q with
   | false => rfl
   | true => exact absurd (List.any_eq_true.2 ⟨q, hq, hb⟩) hc
  have hm : ∀ q, q ∈ (out.filter fun q => !leqP q p) ++ [p] -> q ∈ out /\ leqP q p = false \/ q = p := fun q hq => by
   rcases List.mem_append.1 hq with hq | hq
   ·obtain ⟨a, b⟩ := List.mem_filter.1 hq
    exact .inl ⟨a, by simpa using b⟩
   ·exact .inr (List.mem_singleton.1 hq)
  refine ⟨⟨fun q hq => ?_, fun q hq => ?_, fun q hq r hr' hqr => ?_⟩, fun w => ?_⟩
  ·rcases hm q hq with ⟨h1, _⟩ | rfl
   ·exact h.ok q h1
   ·exact hp
  ·rcases hm q hq with ⟨h1, _⟩ | rfl
   ·exact h.red q h1
   ·exact hr
  ·rcases hm q hq with ⟨h1, h2⟩ | rfl <;> rcases hm r hr' with ⟨h3, h4⟩ | rfl
   ·exact h.apart q h1 r h3 hqr
   ·rw [h2] at hqr; cases hqr
   ·rw [hc r h3] at hqr; cases hqr
   ·rfl
  ·rw [any_app, any_cons, any_nil, Bool.or_false, Bool.eq_iff_iff, Bool.or_eq_true, Bool.or_eq_true, any_iff, any_iff]
   constructor
   ·rintro (⟨q, hq, hw⟩ | hw)
    ·exact .inl ⟨q, (List.mem_filter.1 hq).1, hw⟩
    ·exact .inr hw
   ·rintro (⟨q, hq, hw⟩ | hw)
    ·cases hb : leqP q p with
     | true => exact .inr ((leq_iff (h.ok q hq) hp).1 hb w hw)
     | false => exact .inl ⟨q, List.mem_filter.2 ⟨hq, by rw [hb]; rfl⟩, hw⟩
    ·exact .inr hw
theorem maxP_nil : MaxP [] := ⟨fun _ h => absurd h (by simp), fun _ h => absurd h (by simp), fun _ h => absurd h (by simp)⟩
theorem maxL_from : ∀ (l out : List (List TmD)), MaxP out -> (∀ p ∈ l, OkP p) -> MaxP (l.foldl (fun out p => insM out (normP p)) out) /\ ∀ w, anyP (l.foldl (fun out p => insM out (normP p)) out) w = (anyP out w || anyP l w)
 | [], out, h, _ => ⟨h, fun w => by rw [any_nil, Bool.or_false]; rfl⟩
 | p :: l, out, h, hl => by
  obtain ⟨h1, h2⟩ := insM_ok h (normP_ok (hl p (by simp))) (normP_red p)
  obtain ⟨h3, h4⟩ := maxL_from l _ h1 fun q hq => hl q (by simp [hq])
  refine ⟨h3, fun w => ?_⟩
  rw [List.foldl_cons, h4, h2, any_cons, <- normP_eq p w, Bool.or_assoc]
theorem maxL_max {l : List (List TmD)} (h : ∀ p ∈ l, OkP p) : MaxP (maxL l) := (maxL_from l [] maxP_nil h).1
theorem maxL_any {l : List (List TmD)} (h : ∀ p ∈ l, OkP p) (w : List Int) : anyP (maxL l) w = anyP l w := by
 unfold maxL; rw [(maxL_from l [] maxP_nil h).2, any_nil, Bool.false_or]
theorem any_hd_nil (t : TmD) (l : List (List TmD)) : anyP (hdP t l) [] = anyP l [] := by
 unfold anyP hdP
 rw [List.any_map, Bool.eq_iff_iff, List.any_eq_true, List.any_eq_true]
 constructor
 ·rintro ⟨p, hp, _⟩; exact ⟨p, hp, memP_nil _⟩
 ·rintro ⟨p, hp, _⟩; exact ⟨p, hp, memP_nil _⟩
theorem any_hd {t : TmD} {l : List (List TmD)} {x : Int} {w : List Int} : anyP (hdP t l) (x :: w) = if x ∈ t.ls then (if t.star then anyP (hdP t l) w else anyP l w) else anyP l (x :: w) := by
 unfold anyP hdP
 rw [List.any_map, List.any_map]
 by_cases h1 : x ∈ t.ls
 ·rw [if_pos h1]
  by_cases h2 : t.star = true
  ·rw [if_pos h2]
   congr 1; funext p
   exact memP_in h1 h2 p w
  ·rw [if_neg h2]
   congr 1; funext p
   exact memP_one h1 (by simpa using h2) p w
 ·rw [if_neg h1]
  congr 1; funext p
  exact memP_out h1 p w
theorem meetP_ok {p q : List TmD} (hp : OkP p) (hq : OkP q) : ∀ x ∈ meetP p q, OkP x := meet_ok _ p q (Nat.le_refl _) hp hq
theorem rest_mem {t u : TmD} {p q : List TmD} {x : Int} {w : List Int} (h : ¬ (x ∈ t.ls /\ x ∈ u.ls)) : (memP p (x :: w) && memP (u :: q) (x :: w) || memP (t :: p) (x :: w) && memP q (x :: w)) = (memP (t :: p) (x :: w) && memP (u :: q) (x :: w)) := by
 have a : memP p (x :: w) = true -> memP (t :: p) (x :: w) = true := memP_put t
 have b : memP q (x :: w) = true -> memP (u :: q) (x :: w) = true := memP_put u
 by_cases hx : x ∈ t.ls
 ·rw [memP_out (t := u) (fun hu => h ⟨hx, hu⟩)]
  generalize memP p (x :: w) = P at a ⊢; generalize memP (t :: p) (x :: w) = T at a ⊢; generalize memP q (x :: w) = Q
  cases P <;> cases T <;> cases Q <;> simp_all
 ·rw [memP_out (t := t) hx]
  generalize memP q (x :: w) = Q at b ⊢; generalize memP (u :: q) (x :: w) = U at b ⊢; generalize memP p (x :: w) = P
  cases P <;> cases U <;> cases Q <;> simp_all
theorem meet_mem : ∀ (n : Nat) (p q : List TmD), p.length + q.length <= n -> OkP p -> OkP q -> ∀ w, anyP (meetP p q) w = (memP p w && memP q w)
 | _, [], q, _, _, _, w => by
  rw [meetP, any_cons, any_nil, Bool.or_false]
  cases w with
  | nil => rw [memP_nil, memP_nil]; rfl
  | cons x w => rw [memP_none, Bool.false_and]
 | _, t :: p, [], _, _, _, w => by
  rw [meetP, any_cons, any_nil, Bool.or_false]
  cases w with
  | nil => rw [memP_nil, memP_nil]; rfl
  | cons x w => rw [memP_none, Bool.and_false]
 | 0, t :: p, u :: q, h, _, _, _ => by simp only [List.length_cons] at h; omega
 | n + 1, t :: p, u :: q, h, hp, hq, w => by
  simp only [List.length_cons] at h
  have h1 := meet_mem n p q (by omega) hp.tail hq.tail
  have h2 := meet_mem n p (u :: q) (by simp only [List.length_cons]; omega) hp.tail hq
  have h3 := meet_mem n (t :: p) q (by simp only [List.length_cons]; omega) hp hq.tail
  rw [meetP]
  split
  ·rename_i hc
   simp only [Bool.and_eq_true, Bool.not_eq_true', beq_iff_eq] at hc
   obtain ⟨⟨hs, hs2⟩, he⟩ := hc
   obtain ⟨y, hy⟩ := hp.head.one hs
   obtain ⟨z, hz⟩ := hq.head.one hs2
   rw [hy, hz] at he
   have he : y = z := by simpa using he
   subst he
   cases w with
   | nil => rw [any_hd_nil, h1]; simp only [memP_nil]
   | cons x w =>
    rw [any_hd]
    by_cases hx : x ∈ t.ls
    ·have hx2 : x ∈ u.ls := by rw [hz, <- hy]; exact hx
     rw [if_pos hx, if_neg (by simp [hs]), memP_one hx hs, memP_one hx2 hs2, h1]
    ·have hx2 : x ∉ u.ls := by rw [hz, <- hy]; exact hx
     rw [if_neg hx, memP_out hx, memP_out hx2, h1]
  ·rename_i c1
   split
   ·rename_i hc
    simp only [Bool.and_eq_true, Bool.not_eq_true'] at hc
    obtain ⟨⟨hs, hs2⟩, he⟩ := hc
    have hin := (wit_star hs2).1 he
    cases w with
    | nil => rw [any_hd_nil, h2]; simp only [memP_nil]
    | cons x w =>
     rw [any_hd]
     by_cases hx : x ∈ t.ls
     ·rw [if_pos hx, if_neg (by simp [hs]), memP_one hx hs, memP_in (hin x hx) hs2, h2]
     ·rw [if_neg hx, memP_out hx, h2]
   ·rename_i c2
    split
    ·rename_i hc
     simp only [Bool.and_eq_true, Bool.not_eq_true'] at hc
     obtain ⟨⟨hs, hs2⟩, he⟩ := hc
     have hin := (wit_star hs).1 he
     cases w with
     | nil => rw [any_hd_nil, h3]; simp only [memP_nil]
     | cons x w =>
      rw [any_hd]
      by_cases hx : x ∈ u.ls
      ·rw [if_pos hx, if_neg (by simp [hs2]), memP_one hx hs2, memP_in (hin x hx) hs, h3]
      ·rw [if_neg hx, memP_out hx, h3]
    ·rename_i c3
     split
     ·rename_i c4
      cases w with
      | nil => rw [any_app, h2, h3]; simp only [memP_nil]; rfl
      | cons x w =>
       rw [any_app, h2, h3]
       refine rest_mem fun ⟨hx, hx2⟩ => ?_
       cases hs : t.star with
       | false =>
        obtain ⟨y, hy⟩ := hp.head.one hs
        rw [hy, List.mem_singleton] at hx
        subst hx
        cases hs2 : u.star with
        | false =>
         obtain ⟨z, hz⟩ := hq.head.one hs2
         rw [hz, List.mem_singleton] at hx2
         subst hx2
         exact c1 (by rw [hs, hs2, hy, hz]; simp)
        | true =>
         refine c2 ?_
         rw [hs, hs2, (wit_star hs2).2 (by rw [hy]; intro z hz; rw [List.mem_singleton.1 hz]; exact hx2)]; rfl
       | true =>
        cases hs2 : u.star with
        | false =>
         obtain ⟨z, hz⟩ := hq.head.one hs2
         rw [hz, List.mem_singleton] at hx2
         subst hx2
         refine c3 ?_
         rw [hs, hs2, (wit_star hs).2 (by rw [hz]; intro z hz; rw [List.mem_singleton.1 hz]; exact hx)]; rfl
        | true => rw [hs, hs2] at c4; simp at c4
     ·rename_i c4
      have hs : t.star = true := by cases hb : t.star <;> simp_all
      have hs2 : u.star = true := by cases hb : u.star <;> simp_all
      induction w with
      | nil => rw [any_hd_nil, any_app, h2, h3]; simp only [memP_nil]; rfl
      | cons x w ih =>
       rw [any_hd]
       by_cases hx : x ∈ bothL t.ls u.ls
       ·obtain ⟨a, b⟩ := List.mem_filter.1 hx
        have b : x ∈ u.ls := by simpa using b
        rw [if_pos hx, if_pos rfl, memP_in a hs, memP_in b hs2, ih]
       ·rw [if_neg hx, any_app, h2, h3]
        refine rest_mem fun ⟨a, b⟩ => hx (List.mem_filter.2 ⟨a, by simpa using b⟩)
theorem meetP_mem {p q : List TmD} (hp : OkP p) (hq : OkP q) (w : List Int) : anyP (meetP p q) w = (memP p w && memP q w) := meet_mem _ p q (Nat.le_refl _) hp hq w
theorem mem_all {n : Nat} {b x : Int} : x ∈ allL n b ↔ (0 <= x /\ x < n) /\ x ≠ b := by
 unfold allL
 rw [List.mem_filter, List.mem_map]
 constructor
 ·rintro ⟨⟨k, hk, rfl⟩, h2⟩
  have := List.mem_range.1 hk
  exact ⟨⟨by show (0 : Int) <= (k : Int); omega, by show (k : Int) < n; omega⟩, by simpa using h2⟩
 ·rintro ⟨⟨h0, h1⟩, h2⟩
  exact ⟨⟨x.toNat, List.mem_range.2 (by omega), by show ((x.toNat : Nat) : Int) = x; omega⟩, by simpa using h2⟩
def subB : List Int -> List Int -> Bool
 | [], _ => true
 | _ :: _, [] => false
 | x :: w, z :: v => if x = z then subB w v else subB (x :: w) v
theorem without_mem (n : Nat) : ∀ (w v : List Int), w ≠ [] -> (∀ z ∈ v, 0 <= z /\ z < n) -> memP (withoutP n w) v = !subB w v
 | [], _, h, _ => absurd rfl h
 | x :: w, [], _, _ => by rw [memP_nil, subB]; rfl
 | [x], z :: v, _, hv => by
  rw [withoutP, subB]
  by_cases hz : x = z
  ·subst hz
   rw [if_pos rfl, memP_out (by rw [allT, mem_all]; simp), memP_none]; cases v <;> rfl
  ·rw [if_neg hz, memP_in (by rw [allT, mem_all]; exact ⟨hv z (by simp), fun h => hz h.symm⟩) rfl]
   have := without_mem n [x] v (by simp) fun y hy => hv y (by simp [hy])
   rw [withoutP] at this
   exact this
 | x :: y :: w, z :: v, _, hv => by
  rw [withoutP, subB]
  by_cases hz : x = z
  ·subst hz
   rw [if_pos rfl, memP_out (by rw [allT, mem_all]; simp), memP_one (by simp) rfl]
   exact without_mem n (y :: w) v (by simp) fun y hy => hv y (by simp [hy])
  ·rw [if_neg hz, memP_in (by rw [allT, mem_all]; exact ⟨hv z (by simp), fun h => hz h.symm⟩) rfl]
   have := without_mem n (x :: y :: w) v (by simp) fun y hy => hv y (by simp [hy])
   rw [withoutP] at this
   exact this
theorem step_ok {n : Nat} {out : List (List TmD)} {w : List Int} (h : ∀ p ∈ out, OkP p) : ∀ p ∈ belowStep n out w, OkP p := fun p hp => by
 obtain ⟨q, hq, hp⟩ := List.mem_flatMap.1 hp
 exact meetP_ok (h q hq) (without_ok n w) p hp
theorem step_any {n : Nat} {out : List (List TmD)} {w v : List Int} (h : ∀ p ∈ out, OkP p) (hw : w ≠ []) (hv : ∀ z ∈ v, 0 <= z /\ z < n) : anyP (belowStep n out w) v = (anyP out v && !subB w v) := by
 unfold belowStep
 induction out with
 | nil => rfl
 | cons p out ih =>
  rw [List.flatMap_cons, any_app, ih fun q hq => h q (by simp [hq]), any_cons, meetP_mem (h p (by simp)) (without_ok n w), without_mem n w v hw hv]
  cases memP p v <;> cases anyP out v <;> cases subB w v <;> rfl
end Go.AM
namespace Go.AM
open Go Go.Proofs Go.RowKit
set_option maxRecDepth 100000
theorem words6 : WordsOk (wordsW 6) 6 63 :=
 ⟨by decide +kernel, by decide +kernel, by decide +kernel, by
  have : ∀ i, i < 127 -> 63 <= i -> ¬ (wordsW 6)[i]!.length < 6 := by decide +kernel
  exact fun i h1 h2 => this i (by omega) h1, by decide +kernel, by decide⟩
end Go.AM
namespace Go.AM
open Go Go.Proofs Go.RowKit
set_option maxRecDepth 100000
def smS (l : List Int) (s : DS) (most : Int) : Nat -> DS
 | 0 => s
 | n + 1 => nextS l (smS l s most n) (most + 1)
def smV (l : List Int) (s : DS) (most : Int) : Nat -> List Int
 | 0 => []
 | n + 1 => smV l s most n ++ [nextV l (smS l s most n) (most + 1)]
theorem smS_dk {l : List Int} {s : DS} {most : Int} (h : Dk l s) : ∀ n, Dk l (smS l s most n)
 | 0 => h
 | n + 1 => nextS_dk (smS_dk h n)
theorem smV_len {l : List Int} {s : DS} {most : Int} : ∀ n, (smV l s most n).length = n
 | 0 => rfl
 | n + 1 => by rw [smV, List.length_append, smV_len n]; rfl
theorem smV_low {l : List Int} {s : DS} {most : Int} (h : 0 <= most) : ∀ n, ∀ x ∈ smV l s most n, 0 <= x /\ x <= most
 | 0 => fun x hx => by cases hx
 | n + 1 => fun x hx => by
  rw [smV, List.mem_append] at hx
  rcases hx with hx | hx
  ·exact smV_low h n x hx
  ·simp only [List.mem_cons, List.not_mem_nil, or_false] at hx
   have := nextV_lt (l := l) (s := smS l s most n) (n := most + 1) (by omega)
   subst hx; omega
theorem con_dSmall (l : List Int) (s : DS) (n : Nat) (most : Int) (h : Dk l s) (hn : n <= 1000000) (hm : -1 <= most /\ most <= 1000000) : Con Try.prog 36 [.pb 0 0, vi n, vi most] [deckA l s]
  fun r b => r = vs 2 (smV l s most n) /\ b = [deckA l (smS l s most n)] := by
 refine Con.intro Try.func36 rfl Try.ntmps36 Try.results36 (by kernel_rfl) (by simp) 1 (by simp) ?_
 simp only [go_sem]
 refine LoopK.intro (fun i : Nat => ⟨22, [(0, .pb 0 0), (1, vi n), (2, vi most), (7, vs 1344 (smV l s most i)), (8, vi i)], [deckA l (smS l s most i)]⟩)
  (fun i => n - i) (fun i => i <= n) 0 (by omega) ?_ ?_
 ·simp only [go_sem, smV, smS, List.map_nil]
 rintro i hi
 by_cases h2 : i < n
 ·have hw : IntKind.i64.wrap (i + 1) = i + 1 := wrap_in (by omega) (by omega)
  have hw2 : IntKind.i64.wrap (most + 1) = most + 1 := wrap_in (by omega) (by omega)
  simp only [go_sem, h2, hw2]
  refine CallU.boxes (i := 0) (is := []) (bx0 := [deckA l (smS l s most i)]) (con_dNext l (smS l s most i) (most + 1) (smS_dk h i)) (by simp only [go_sem]) (by simp only [go_sem]) (by simp only [go_sem]) (by simp only [go_sem]) (by simp only [go_sem]) ?_
  rintro r b ⟨rfl, rfl⟩
  have hr : roomFor ((smV l s most i).length + 1) 8 := by rw [smV_len]; simp only [roomFor]; omega
  simp only [go_sem, hr, hw]
  refine roundK.intro (i + 1) (by omega) (by omega) ?_
  simp only [go_sem, smV, smS, List.map_append, List.map_cons, List.map_nil]
 ·have e : i = n := by omega
  subst e
  simp only [go_sem, h2]
def wdN (l : List Int) (s : DS) (most : Int) : Nat := (nextV l s (most + 1)).toNat
def wdV (l : List Int) (s : DS) (letters most : Int) : List Int := smV l (nextS l s (most + 1)) (letters - 1) (wdN l s most)
def wdS (l : List Int) (s : DS) (letters most : Int) : DS := smS l (nextS l s (most + 1)) (letters - 1) (wdN l s most)
theorem wdS_dk {l : List Int} {s : DS} {a b : Int} (h : Dk l s) : Dk l (wdS l s a b) := smS_dk (nextS_dk h) _
theorem wdN_le {l : List Int} {s : DS} {most : Int} (h : 0 <= most) : (wdN l s most : Int) = nextV l s (most + 1) /\ (wdN l s most : Int) <= most := by
 have := nextV_lt (l := l) (s := s) (n := most + 1) (by omega)
 unfold wdN; omega
theorem con_dWord (l : List Int) (s : DS) (letters most : Int) (h : Dk l s) (h1 : 0 <= letters /\ letters <= 1000000) (h2 : 0 <= most /\ most <= 1000) : Con Try.prog 18 [.pb 0 0, vi letters, vi most] [deckA l s]
  fun r b => r = vs 2 (wdV l s letters most) /\ b = [deckA l (wdS l s letters most)] := by
 refine Con.intro Try.func18 rfl Try.ntmps18 Try.results18 (by kernel_rfl) (by simp) 1 (by simp) ?_
 have hw : IntKind.i64.wrap (most + 1) = most + 1 := wrap_in (by omega) (by omega)
 have hw2 : IntKind.i64.wrap (letters - 1) = letters - 1 := wrap_in (by omega) (by omega)
 obtain ⟨e, e2⟩ := wdN_le (l := l) (s := s) h2.1
 simp only [go_sem, hw]
 refine CallU.boxes (i := 0) (is := []) (bx0 := [deckA l s]) (con_dNext l s (most + 1) h) (by simp only [go_sem]) (by simp only [go_sem]) (by simp only [go_sem]) (by simp only [go_sem]) (by simp only [go_sem]) ?_
 rintro r b ⟨rfl, rfl⟩
 simp only [go_sem, hw2, <- e]
 refine CallU.boxes (i := 0) (is := []) (bx0 := [deckA l (nextS l s (most + 1))]) (con_dSmall l (nextS l s (most + 1)) (wdN l s most) (letters - 1) (nextS_dk h) (by omega) (by omega)) (by simp only [go_sem]) (by simp only [go_sem]) (by simp only [go_sem]) (by simp only [go_sem]) (by simp only [go_sem]) ?_
 rintro r b ⟨rfl, rfl⟩
 simp only [go_sem]
 exact ⟨rfl, rfl⟩
end Go.AM
namespace Go.AM
open Go Go.Proofs Go.RowKit
theorem words6_in : ∀ w ∈ wordsW 6, w.length <= 6 /\ ∀ x ∈ w, 0 <= x /\ x < 2 := by decide +kernel
end Go.AM
namespace Go.AM
open Go Go.Proofs Go.RowKit
def lexC : List Int -> List Int -> Int
 | [], [] => 0
 | [], _ :: _ => -1
 | _ :: _, [] => 1
 | x :: xs, y :: ys => if ordI x y ≠ 0 then ordI x y else lexC xs ys
theorem ordI_anti (a b : Int) : ordI b a = - ordI a b := by unfold ordI; split <;> split <;> (try split) <;> omega
theorem ordI_lt {a b c : Int} (h1 : ordI a b <= 0) (h2 : ordI b c <= 0) (h3 : ordI a b ≠ 0 \/ ordI b c ≠ 0) : ordI a c < 0 := by
 unfold ordI at *
 have k1 : a <= b := by
  rcases Int.lt_or_le b a with h | h
  ·rw [if_neg (by omega), if_pos h] at h1; omega
  ·exact h
 have k2 : b <= c := by
  rcases Int.lt_or_le c b with h | h
  ·rw [if_neg (by omega), if_pos h] at h2; omega
  ·exact h
 have k3 : a < c := by
  rcases h3 with h | h
  ·have : a ≠ b := fun e => h (by subst e; simp)
   omega
  ·have : b ≠ c := fun e => h (by subst e; simp)
   omega
 rw [if_pos k3]; omega
theorem lexC_anti : ∀ a b : List Int, lexC b a = - lexC a b
 | [], [] => rfl
 | [], _ :: _ => rfl
 | _ :: _, [] => rfl
 | x :: xs, y :: ys => by
  rw [lexC, lexC, ordI_anti x y, lexC_anti xs ys]
  by_cases h : ordI x y = 0
  ·rw [if_neg (by omega), if_neg (by omega)]
  ·rw [if_pos (by omega), if_pos (by omega)]
theorem lexC_zero : ∀ {a b : List Int}, lexC a b = 0 ↔ a = b
 | [], [] => by simp [lexC]
 | [], _ :: _ => by simp [lexC]
 | _ :: _, [] => by simp [lexC]
 | x :: xs, y :: ys => by
  rw [lexC]
  by_cases h : ordI x y = 0
  ·rw [if_neg (fun h' => h' h), lexC_zero, ordI_zero.1 h]; simp
  ·rw [if_pos h]
   exact ⟨fun e => absurd e h, fun e => absurd (ordI_zero.2 (by injection e)) h⟩
theorem lexC_trans : ∀ {a b c : List Int}, lexC a b <= 0 -> lexC b c <= 0 -> lexC a c <= 0
 | [], _, [], _, _ => by simp [lexC]
 | [], _, _ :: _, _, _ => by simp [lexC]
 | _ :: _, [], _, h, _ => by simp [lexC] at h
 | _ :: _, _ :: _, [], _, h => by simp [lexC] at h
 | x :: xs, y :: ys, z :: zs, h1, h2 => by
  rw [lexC] at h1 h2 ⊢
  by_cases e1 : ordI x y = 0
  ·rw [if_neg (fun h' => h' e1)] at h1
   obtain rfl := ordI_zero.1 e1
   by_cases e2 : ordI x z = 0
   ·rw [if_neg (fun h' => h' e2)] at h2 ⊢
    exact lexC_trans h1 h2
   ·rw [if_pos e2] at h2 ⊢
    exact h2
  ·rw [if_pos e1] at h1
   by_cases e2 : ordI y z = 0
   ·obtain rfl := ordI_zero.1 e2
    rw [if_pos e1]; exact h1
   ·rw [if_pos e2] at h2
    have := ordI_lt h1 h2 (.inl e1)
    rw [if_pos (by omega)]; omega
theorem lexC_drop {a b : List Int} {i : Nat} (hi : i < a.length) (hj : i < b.length) : lexC (a.drop i) (b.drop i) = if ordI a[i]! b[i]! ≠ 0 then ordI a[i]! b[i]! else lexC (a.drop (i + 1)) (b.drop (i + 1)) := by
 rw [List.drop_eq_getElem_cons hi, List.drop_eq_getElem_cons hj, lexC, getElem!_pos a i hi, getElem!_pos b i hj]
end Go.AM
namespace Go.AM
open Go Go.Proofs Go.RowKit
set_option maxRecDepth 100000
theorem con_nan (x : Int) : Con Try.prog 100 [vi x] [] fun r _ => r = .sc (.bool false) := by
 refine Con.intro Try.func100 rfl Try.ntmps100 Try.results100 (by kernel_rfl) (by simp) 0 (by simp) ?_
 simp only [go_sem]
theorem con_cmpI (x y : Int) : Con Try.prog 85 [vi x, vi y] [] fun r _ => r = vi (ordI x y) := by
 refine Con.intro Try.func85 rfl Try.ntmps85 Try.results85 (by kernel_rfl) (by simp) 0 (by simp) ?_
 simp only [go_sem]
 refine CallU.free (con_nan x) (by simp only [go_sem]) (by simp only [go_sem]) ?_
 rintro r bx rfl
 simp only [go_sem]
 refine CallU.free (con_nan y) (by simp only [go_sem]) (by simp only [go_sem]) ?_
 rintro r bx rfl
 by_cases h1 : x < y
 ·have e : ordI x y = -1 := by unfold ordI; rw [if_pos h1]
  simp only [go_sem, h1, e]
 by_cases h2 : y < x
 ·have e : ordI x y = 1 := by unfold ordI; rw [if_neg h1, if_pos h2]
  simp only [go_sem, h1, h2, e]
 ·have e : ordI x y = 0 := by unfold ordI; rw [if_neg h1, if_neg h2]
  simp only [go_sem, h1, h2, e]
theorem con_or (l : List Int) (hl : l.length <= 9223372036854775807) : Con Try.prog 84 [vs 0 l] [] fun r _ => r = vi (orF l) := by
 refine Con.intro Try.func84 rfl Try.ntmps84 Try.results84 (by kernel_rfl) (by simp) 0 (by simp) ?_
 simp only [go_sem]
 refine LoopK.intro (fun i : Nat => ⟨18, [(3, vi 0), (6, vs 0 l), (7, vi l.length), (8, vi i)], []⟩)
  (fun i => l.length - i) (fun i => i <= l.length /\ orF (l.drop i) = orF l) 0 ⟨by omega, rfl⟩ ?_ ?_
 ·simp only [go_sem]
 rintro i ⟨hi, he⟩
 by_cases h : i < l.length
 ·have g1 := getv h
  have hw : IntKind.i64.wrap (i + 1) = i + 1 := wrap_in (by omega) (by omega)
  have hd : l.drop i = l[i]! :: l.drop (i + 1) := by rw [<- List.getElem_cons_drop h, <- getElem!_pos l i h]
  rw [hd] at he
  by_cases h0 : l[i]! = 0
  ·have hb : (l[i]! != 0) = false := by simp [h0]
   simp only [go_sem, h, g1, hb, hw]
   refine roundK.intro (i + 1) ⟨by omega, ?_⟩ (by omega) ?_
   ·rw [<- he]; unfold orF; rw [List.find?_cons_of_neg (by rw [hb]; simp)]
   ·simp only [go_sem]
  ·have hb : (l[i]! != 0) = true := bne_iff_ne.2 h0
   have e : orF l = l[i]! := by rw [<- he]; unfold orF; rw [List.find?_cons_of_pos (by exact hb)]; rfl
   simp only [go_sem, h, g1, hb, e]
 ·have e : orF l = 0 := by rw [<- he, List.drop_of_length_le (by omega)]; rfl
  simp only [go_sem, h, e]
end Go.AM
namespace Go.AM
open Go Go.Proofs Go.RowKit
set_option maxRecDepth 100000
theorem con_lexC (a b : List Int) (ha : a.length <= 1000000) : Con Try.prog 101 [vs 0 a, vs 0 b] [] fun r _ => r = vi (lexC a b) := by
 refine Con.intro Try.func101 rfl Try.ntmps101 Try.results101 (by kernel_rfl) (by simp) 0 (by simp) ?_
 simp only [go_sem]
 refine LoopK.intro (fun i : Nat => ⟨36, [(0, vs 0 a), (1, vs 0 b), (9, vs 0 a), (10, vi a.length), (11, vi i)], []⟩)
  (fun i => a.length - i) (fun i => i <= a.length /\ i <= b.length /\ lexC (a.drop i) (b.drop i) = lexC a b) 0 ⟨by omega, by omega, rfl⟩ ?_ ?_
 ·simp only [go_sem]
 rintro i ⟨hi, hj, hd⟩
 by_cases h : i < a.length
 ·have hg := getv h
  have hw : IntKind.i64.wrap (i + 1) = i + 1 := wrap_in (by omega) (by omega)
  by_cases h2 : i < b.length
  ·have hg2 := getv h2
   have h3 : ¬ (b.length : Int) <= i := by omega
   rw [lexC_drop h h2] at hd
   simp only [go_sem, h, h2, hg, hg2, h3]
   refine CallU.free (con_cmpI a[i]! b[i]!) (by simp only [go_sem]) (by simp only [go_sem]) ?_
   rintro r bx rfl
   by_cases h4 : ordI a[i]! b[i]! = 0
   ·have h5 : (ordI a[i]! b[i]! != 0) = false := by rw [h4]; rfl
    rw [if_neg (fun h' => h' h4)] at hd
    simp only [go_sem, h5, hw]
    refine roundK.intro (i + 1) ⟨by omega, by omega, hd⟩ (by omega) ?_
    simp only [go_sem]
   ·have h5 : (ordI a[i]! b[i]! != 0) = true := bne_iff_ne.2 h4
    rw [if_pos h4] at hd
    rw [hd] at h5
    simp only [go_sem, h5, hd]
  ·have h3 : (b.length : Int) <= i := by omega
   have e : lexC a b = 1 := by
    rw [<- hd, show b.drop i = [] from List.drop_of_length_le (by omega), List.drop_eq_getElem_cons h]; rfl
   simp only [go_sem, h, hg, h3, e]
 ·have hil : i = a.length := by omega
  subst hil
  rw [List.drop_length] at hd
  by_cases h2 : a.length < b.length
  ·have e : lexC a b = -1 := by rw [<- hd, List.drop_eq_getElem_cons h2]; rfl
   simp only [go_sem, h, h2, e]
  ·have e : lexC a b = 0 := by rw [<- hd, List.drop_of_length_le (by omega)]; rfl
   simp only [go_sem, h, h2, e]
end Go.AM
namespace Go.AM
structure OrdB {β : Type} (cmp : β -> β -> Int) : Prop where
 zero : ∀ a b, cmp a b = 0 ↔ a = b
 anti : ∀ a b, cmp a b = - cmp b a
 trans : ∀ a b c, cmp a b < 0 -> cmp b c < 0 -> cmp a c < 0
section
variable {β : Type} {cmp : β -> β -> Int}
end
end Go.AM
namespace Go.AM
theorem nodup_len {β : Type} [DecidableEq β] : ∀ {l m : List β}, l.Nodup -> (∀ x ∈ l, x ∈ m) -> l.length <= m.length
 | [], _, _, _ => Nat.zero_le _
 | x :: l, m, hn, h => by
  obtain ⟨h1, h2⟩ := List.nodup_cons.1 hn
  have hx := h x (List.mem_cons_self ..)
  have := nodup_len (l := l) (m := m.erase x) h2 fun y hy => (List.mem_erase_of_ne (fun e => h1 (by rw [<- e]; exact hy))).2 (h y (List.mem_cons_of_mem _ hy))
  have hp := List.length_pos_of_mem hx
  rw [List.length_erase_of_mem hx] at this
  rw [List.length_cons]; omega
section
variable {α β : Type}
end
section
variable {α β : Type} [DecidableEq β] {val : α -> β} {cmp : β -> β -> Int}
end
end Go.AM
namespace Go.AM
open Go Go.Proofs Go.RowKit
theorem ord_lexC : OrdB lexC := ⟨fun _ _ => lexC_zero, fun a b => lexC_anti b a, fun a b c h1 h2 => by
 have h3 := lexC_trans (Int.le_of_lt h1) (Int.le_of_lt h2)
 by_cases h : lexC a c = 0
 ·have e := lexC_zero.1 h
  subst e
  have := lexC_anti a b
  omega
 ·omega⟩
section
variable {β γ : Type}
theorem OrdB.comap {cmp : γ -> γ -> Int} (ho : OrdB cmp) {k : β -> γ} (hk : ∀ a b, k a = k b -> a = b) : OrdB fun a b => cmp (k a) (k b) :=
 ⟨fun a b => ⟨fun h => hk a b ((ho.zero _ _).1 h), fun h => by rw [h]; exact (ho.zero _ _).2 rfl⟩, fun a b => ho.anti _ _, fun a b c h1 h2 => ho.trans _ _ _ h1 h2⟩
def lexBy (cmp : β -> β -> Int) : List β -> List β -> Int
 | [], [] => 0
 | [], _ :: _ => -1
 | _ :: _, [] => 1
 | x :: xs, y :: ys => if cmp x y ≠ 0 then cmp x y else lexBy cmp xs ys
theorem lexBy_zero {cmp : β -> β -> Int} (ho : OrdB cmp) : ∀ a b : List β, lexBy cmp a b = 0 ↔ a = b
 | [], [] => by simp [lexBy]
 | [], _ :: _ => by simp [lexBy]
 | _ :: _, [] => by simp [lexBy]
 | x :: xs, y :: ys => by
  rw [lexBy]
  by_cases h : cmp x y = 0
  ·rw [if_neg (fun h' => h' h), lexBy_zero ho xs ys, (ho.zero x y).1 h]; simp
  ·rw [if_pos h]
   exact ⟨fun e => absurd e h, fun e => absurd ((ho.zero x y).2 (by injection e)) h⟩
theorem lexBy_anti {cmp : β -> β -> Int} (ho : OrdB cmp) : ∀ a b : List β, lexBy cmp a b = - lexBy cmp b a
 | [], [] => rfl
 | [], _ :: _ => rfl
 | _ :: _, [] => rfl
 | x :: xs, y :: ys => by
  have := ho.anti x y
  rw [lexBy, lexBy, lexBy_anti ho xs ys]
  by_cases h : cmp x y = 0
  ·rw [if_neg (by omega), if_neg (by omega)]
  ·rw [if_pos (by omega), if_pos (by omega), this]
theorem lexBy_trans {cmp : β -> β -> Int} (ho : OrdB cmp) : ∀ a b c : List β, lexBy cmp a b < 0 -> lexBy cmp b c < 0 -> lexBy cmp a c < 0
 | [], [], _, h, _ => by simp [lexBy] at h
 | [], _ :: _, [], _, h => by simp [lexBy] at h
 | [], _ :: _, _ :: _, _, _ => by simp [lexBy]
 | _ :: _, [], _, h, _ => by simp [lexBy] at h
 | _ :: _, _ :: _, [], _, h => by simp [lexBy] at h
 | x :: xs, y :: ys, z :: zs, h1, h2 => by
  rw [lexBy] at h1 h2 ⊢
  by_cases e1 : cmp x y = 0
  ·rw [if_neg (fun h' => h' e1)] at h1
   have e1 := (ho.zero _ _).1 e1
   subst e1
   by_cases e2 : cmp x z = 0
   ·rw [if_neg (fun h' => h' e2)] at h2 ⊢
    exact lexBy_trans ho xs ys zs h1 h2
   ·rw [if_pos e2] at h2 ⊢; exact h2
  ·rw [if_pos e1] at h1
   by_cases e2 : cmp y z = 0
   ·have e2 := (ho.zero _ _).1 e2
    subst e2
    rw [if_pos e1]; exact h1
   ·rw [if_pos e2] at h2
    have h3 := ho.trans _ _ _ h1 h2
    rw [if_pos (by omega)]; exact h3
theorem ord_lexBy {cmp : β -> β -> Int} (ho : OrdB cmp) : OrdB (lexBy cmp) := ⟨lexBy_zero ho, lexBy_anti ho, lexBy_trans ho⟩
def thenC (f : β -> Int) (cmp : β -> β -> Int) (a b : β) : Int := if ordI (f a) (f b) ≠ 0 then ordI (f a) (f b) else cmp a b
theorem ord_thenC {cmp : β -> β -> Int} (ho : OrdB cmp) (f : β -> Int) : OrdB (thenC f cmp) := by
 have z : ∀ x y : Int, ordI x y = 0 ↔ x = y := fun x y => ordI_zero
 refine ⟨fun a b => ?_, fun a b => ?_, fun a b c h1 h2 => ?_⟩
 ·unfold thenC
  by_cases h : ordI (f a) (f b) = 0
  ·rw [if_neg (fun h' => h' h)]; exact ho.zero a b
  ·rw [if_pos h]
   exact ⟨fun e => absurd e h, fun e => absurd ((z _ _).2 (by rw [e])) h⟩
 ·unfold thenC
  have := ordI_anti (f b) (f a)
  by_cases h : ordI (f a) (f b) = 0
  ·rw [if_neg (fun h' => h' h), if_neg (by omega)]; exact ho.anti a b
  ·rw [if_pos h, if_pos (by omega)]; exact this
 ·unfold thenC at *
  have l1 : ∀ x y : Int, ordI x y < 0 ↔ x < y := fun x y => by unfold ordI; split <;> (try split) <;> omega
  by_cases e1 : ordI (f a) (f b) = 0
  ·rw [if_neg (fun h' => h' e1)] at h1
   rw [(z _ _).1 e1]
   by_cases e2 : ordI (f b) (f c) = 0
   ·rw [if_neg (fun h' => h' e2)] at h2 ⊢; exact ho.trans _ _ _ h1 h2
   ·rw [if_pos e2] at h2 ⊢; exact h2
  ·rw [if_pos e1] at h1
   by_cases e2 : ordI (f b) (f c) = 0
   ·rw [<- (z _ _).1 e2, if_pos e1]; exact h1
   ·rw [if_pos e2] at h2
    have a1 := (l1 _ _).1 h1; have a2 := (l1 _ _).1 h2
    have : ordI (f a) (f c) < 0 := (l1 _ _).2 (by omega)
    rw [if_pos (by omega)]; exact this
end
def keyT (t : TmD) : List Int := (if t.star then 1 else 0) :: (t.ls.length : Int) :: t.ls
def cmpTm (a b : TmD) : Int := lexC (keyT a) (keyT b)
theorem ord_Tm : OrdB cmpTm := ord_lexC.comap fun a b h => by
 unfold keyT at h
 injection h with h1 h2
 injection h2 with h2 h3
 cases a with | mk s l => cases b with | mk s' l' =>
 simp only at h1 h3
 subst h3
 have : s = s' := by cases s <;> cases s' <;> simp_all
 rw [this]
def cmpPr (p q : List TmD) : Int := thenC (fun p : List TmD => (p.length : Int)) (lexBy cmpTm) p q
theorem ord_Pr : OrdB cmpPr := ord_thenC (ord_lexBy ord_Tm) _
end Go.AM
namespace Go.AM
open Go Go.Proofs Go.RowKit
set_option maxRecDepth 100000
def vq (x : Int) : AV := .sc (.int .u64 x)
theorem con_len64S (n : Nat) (hn : n <= 12) : Con Try.prog 99 [vq n] [] fun r _ => ∃ v, r = vi v := by
 refine Con.intro Try.func99 rfl Try.ntmps99 Try.results99 (by kernel_rfl) (by simp) 0 (by simp) ?_
 have h1 : ¬ (4294967296 : Int) <= n := by omega
 have h2 : ¬ (65536 : Int) <= n := by omega
 have h3 : ¬ (256 : Int) <= n := by omega
 simp only [go_sem, vq, h1, h2, h3]
 have h : n = 0 \/ n = 1 \/ n = 2 \/ n = 3 \/ n = 4 \/ n = 5 \/ n = 6 \/ n = 7 \/ n = 8 \/ n = 9 \/ n = 10 \/ n = 11 \/ n = 12 := by omega
 rcases h with rfl | rfl | rfl | rfl | rfl | rfl | rfl | rfl | rfl | rfl | rfl | rfl | rfl
 ·exact ⟨0, by kernel_rfl, by simp only [go_sem]; exact ⟨_, rfl⟩⟩
 ·exact ⟨1, by kernel_rfl, by simp only [go_sem]; exact ⟨_, rfl⟩⟩
 ·exact ⟨2, by kernel_rfl, by simp only [go_sem]; exact ⟨_, rfl⟩⟩
 ·exact ⟨2, by kernel_rfl, by simp only [go_sem]; exact ⟨_, rfl⟩⟩
 ·exact ⟨3, by kernel_rfl, by simp only [go_sem]; exact ⟨_, rfl⟩⟩
 ·exact ⟨3, by kernel_rfl, by simp only [go_sem]; exact ⟨_, rfl⟩⟩
 ·exact ⟨3, by kernel_rfl, by simp only [go_sem]; exact ⟨_, rfl⟩⟩
 ·exact ⟨3, by kernel_rfl, by simp only [go_sem]; exact ⟨_, rfl⟩⟩
 ·exact ⟨4, by kernel_rfl, by simp only [go_sem]; exact ⟨_, rfl⟩⟩
 ·exact ⟨4, by kernel_rfl, by simp only [go_sem]; exact ⟨_, rfl⟩⟩
 ·exact ⟨4, by kernel_rfl, by simp only [go_sem]; exact ⟨_, rfl⟩⟩
 ·exact ⟨4, by kernel_rfl, by simp only [go_sem]; exact ⟨_, rfl⟩⟩
 ·exact ⟨4, by kernel_rfl, by simp only [go_sem]; exact ⟨_, rfl⟩⟩
theorem con_lenS (n : Nat) (hn : n <= 12) : Con Try.prog 83 [vq n] [] fun r _ => ∃ v, r = vi v := by
 refine Con.intro Try.func83 rfl Try.ntmps83 Try.results83 (by kernel_rfl) (by simp) 0 (by simp) ?_
 have hc := con_len64S n hn
 simp only [vq] at hc
 simp only [go_sem, vq]
 refine CallU.free hc (by simp only [go_sem]) (by simp only [go_sem]) ?_
 rintro r bx ⟨v, rfl⟩
 simp only [go_sem]
 exact ⟨v, rfl⟩
end Go.AM
