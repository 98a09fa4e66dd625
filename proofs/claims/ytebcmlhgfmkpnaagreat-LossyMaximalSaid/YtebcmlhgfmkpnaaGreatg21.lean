/- LoL -/
import Derived.Test.YtebcmlhgfmkpnaaGreatg17
import Derived.Test.YtebcmlhgfmkpnaaGreatg20
import Derived.Test.YtebcmlhgfmkpnaaGreatg12
namespace Go.AM
open Go Go.Proofs Go.RowKit
set_option maxRecDepth 100000
set_option maxHeartbeats 8000000
def staysB (r : RD) (s : Int) : Bool := r.act == 1 && r.src == s && r.dst == s
def sentF (rules : List RD) (s : Int) (c : Nat) : List Int := (rules.filter fun r => staysB r s && r.channel == (c : Int)).map RD.letter
def sentL (rules : List RD) (s : Int) (np : Nat) : List (List Int) := (List.range np).map (sentF rules s)
def loopW (rules : List RD) (s : Int) (W : List (List TmD)) : List (List TmD) := W.mapIdx fun c p => starF (normP p) (lettersF (sentF rules s c))
theorem sentL_len (rules : List RD) (s : Int) (np : Nat) : (sentL rules s np).length = np := by simp [sentL]
theorem sentL_at {rules : List RD} {s : Int} {np c : Nat} (h : c < np) : (sentL rules s np)[c]! = sentF rules s c := by
 rw [getElem!_pos _ c (by rw [sentL_len]; exact h)]
 simp [sentL]
theorem sentL_zero (s : Int) (np : Nat) : sentL [] s np = List.replicate np [] := by
 apply List.ext_getElem
 ·simp [sentL]
 ·intro i h1 h2; simp [sentL, sentF]
theorem sentF_snoc (rules : List RD) (r : RD) (s : Int) (c : Nat) : sentF (rules ++ [r]) s c = sentF rules s c ++ (if staysB r s = true /\ r.channel = (c : Int) then [r.letter] else []) := by
 unfold sentF
 rw [List.filter_append, List.map_append]
 by_cases h1 : staysB r s = true <;> by_cases h2 : r.channel = (c : Int) <;> simp [h1, h2]
theorem sentL_no {rules : List RD} {r : RD} {s : Int} {np : Nat} (h : staysB r s = false) : sentL (rules ++ [r]) s np = sentL rules s np := by
 unfold sentL
 apply List.map_congr_left
 intro c _
 rw [sentF_snoc, if_neg (by rw [h]; simp), List.append_nil]
theorem sentL_yes {rules : List RD} {r : RD} {s : Int} {np c : Nat} (h : staysB r s = true) (hc : r.channel = (c : Int)) (_hcn : c < np) : sentL (rules ++ [r]) s np = (sentL rules s np).set c (sentF rules s c ++ [r.letter]) := by
 apply List.ext_getElem
 ·simp [sentL]
 ·intro i h1 h2
  rw [List.getElem_set]
  simp only [sentL, List.getElem_map, List.getElem_range, sentF_snoc]
  by_cases e : c = i
  ·subst e; rw [if_pos ⟨h, hc⟩, if_pos rfl]
  ·rw [if_neg (fun hh => e (by have := hh.2; rw [hc] at this; omega)), if_neg e, List.append_nil]
theorem sentF_len (rules : List RD) (s : Int) (c : Nat) : (sentF rules s c).length <= rules.length := by
 unfold sentF; rw [List.length_map]; exact List.length_filter_le _ _
theorem letters_one {L : List Int} (h : L.length <= 1) : lettersF L = L := by
 have e : sortI L = L := by
  match L, h with
  | [], _ => exact List.Perm.eq_nil (List.mergeSort_perm _ _)
  | [x], _ => exact List.perm_singleton.1 (List.mergeSort_perm _ _)
  | _ :: _ :: _, h => simp only [List.length_cons] at h; omega
 unfold lettersF
 rw [e]
 exact uniq_short (by omega)
theorem con_lins1 (L : List Int) (h : L.length <= 1) : Con Tryz.prog 209 [vs 0 L, vi 0, vi L.length] [] fun r _ => r = .tup [] := by
 refine Con.intro Tryz.func209 rfl Tryz.ntmps209 Tryz.results209 (by kernel_rfl) (by simp) 0 (by simp) ?_
 have w1 : IntKind.i64.wrap 1 = 1 := wrap_in (by omega) (by omega)
 have h1 : ¬ (1 : Int) < (L.length : Int) := by omega
 simp only [go_sem, w1]
 refine LoopK.intro (fun _ : Unit => ⟨49, [(2, vi L.length), (6, vi 1)], []⟩) (fun _ => 0) (fun _ => True) () trivial ?_ ?_
 ·simp only [go_sem]
 rintro ⟨⟩ _
 simp only [go_sem, h1]
theorem con_lpdq1 (L : List Int) (h : L.length <= 1) (v : Int) : Con Tryz.prog 137 [vs 0 L, vi 0, vi L.length, vi v] [] fun r _ => r = .tup [] := by
 refine Con.intro Tryz.func137 rfl Tryz.ntmps137 Tryz.results137 (by kernel_rfl) (by simp) 0 (by simp) ?_
 have w1 : IntKind.i64.wrap ((L.length : Int) - 0) = L.length := by rw [wrap_in (by omega) (by omega)]; omega
 have h12 : (L.length : Int) <= 12 := by omega
 simp only [go_sem]
 refine LoopK.intro (fun _ : Unit => ⟨134, [(0, vs 0 L), (1, vi 0), (2, vi L.length), (3, vi v)], []⟩) (fun _ => 0) (fun _ => True) () trivial ?_ ?_
 ·simp only [go_sem]
 rintro ⟨⟩ _
 simp only [go_sem, w1, h12]
 refine CallU.free (con_lins1 L h) (by simp only [go_sem]) (by simp only [go_sem]) ?_
 rintro r bx rfl
 simp only [go_sem]
theorem con_lsort1 (L : List Int) (h : L.length <= 1) : Con Tryz.prog 86 [vs 0 L] [] fun r _ => r = .tup [] := by
 refine Con.intro Tryz.func86 rfl Tryz.ntmps86 Tryz.results86 (by kernel_rfl) (by simp) 0 (by simp) ?_
 have w2 : IntKind.u64.wrap (L.length : Int) = L.length := by rw [IntKind.wrap_u64]; omega
 simp only [go_sem, w2, List.length_map]
 refine CallU.free (con_llen L.length (by omega)) (by simp only [go_sem]) (by simp only [go_sem]) ?_
 rintro r bx rfl
 simp only [go_sem]
 refine CallU.free (con_lpdq1 L h (Go.Sort.bitsLen L.length : Nat)) (by simp only [go_sem]) (by simp only [go_sem]) ?_
 rintro r bx rfl
 simp only [go_sem]
theorem con_lcompact1 (L : List Int) (h : L.length <= 1) : Con Tryz.prog 88 [vs 0 L] [] fun r _ => r = vs 0 L := by
 refine Con.intro Tryz.func88 rfl Tryz.ntmps88 Tryz.results88 (by kernel_rfl) (by simp) 0 (by simp) ?_
 have h2 : (L.length : Int) < 2 := by omega
 simp only [go_sem, h2, List.length_map]
def emptyRow : AV -> AV
 | .sl _ es [] => .sl 0 es []
 | x => x
theorem empty_row {G : Nat -> Status} {w : World} {r : Nat} {x : AV} {u : Value} (hx : x.rowLike = true) (hr : LRel G w r x u) : (emptyRow x).rowLike = true /\ LRel G w r (emptyRow x) u := by
 cases x <;> first | exact ⟨hx, hr⟩ | skip
 rename_i t es xs
 cases xs with
 | cons y ys => exact ⟨hx, hr⟩
 | nil =>
  refine ⟨rfl, .froz ?_⟩
  cases hr with
  | froz hr =>
   cases hr with
   | slNil _ _ a c h1 h2 h3 => exact .slNil 0 es a c (by omega) (fun h => by omega) h3
   | sl _ _ _ b off c vals => exact .slNil 0 es _ c (by omega) (fun h => by omega) (fun h => by cases h)
  | own _ _ _ _ e vals h1 hrt h2 =>
   rcases h2.2 with ⟨hv, _⟩ | ⟨g, cap, cur, hv, _⟩
   ·rw [hv]
    exact .slNil 0 es none 0 (by omega) (fun h => by omega) (fun _ => rfl)
   ·rw [hv]
    exact .slNil 0 es _ _ (by omega) (fun h => by omega) (fun h => by cases h)
def rowK (t i : Nat) (r : List Int) : AV := if r = [] then .sl 0 1 [] else .sl (subT t i) 1 (r.map vi)
theorem rowK_like (t i : Nat) (r : List Int) : (rowK t i r).rowLike = true := by unfold rowK; split <;> rfl
def rowsK (t k : Nat) (M : List (List Int)) : List AV := M.mapIdx fun i r => if i < k then .any else rowK t i r
@[go_sem] theorem rowsK_len {t k : Nat} {M : List (List Int)} : (rowsK t k M).length = M.length := by simp [rowsK]
theorem rowsK_get {t k i : Nat} {M : List (List Int)} (h : i < M.length) : (rowsK t k M)[i]? = some (if i < k then .any else rowK t i M[i]!) := by
 unfold rowsK
 rw [List.getElem?_mapIdx, List.getElem?_eq_getElem h, getElem!_pos M i h]; rfl
theorem getK {t k : Nat} {M : List (List Int)} (h : k < M.length) : (rowsK t k M)[k]? = some (rowK t k M[k]!) := by rw [rowsK_get h, if_neg (by omega)]
theorem rowsK_ext {t k : Nat} {M : List (List Int)} {l : List AV} (hl : l.length = M.length) (h : ∀ i, i < M.length -> l[i]? = some (if i < k then .any else rowK t i M[i]!)) : l = rowsK t k M := by
 apply List.ext_getElem?
 intro i
 by_cases hi : i < M.length
 ·rw [h i hi, rowsK_get hi]
 ·rw [List.getElem?_eq_none (by omega), List.getElem?_eq_none (by rw [rowsK_len]; omega)]
theorem rowsK_zero {t : Nat} {M : List (List Int)} : (rowsA t M).map emptyRow = rowsK t 0 M := rowsK_ext (by rw [List.length_map, rowsA_len]) fun i hi => by
 rw [List.getElem?_map, gett hi, Option.map_some, if_neg (by omega)]
 unfold rowK
 cases M[i]! <;> rfl
theorem rowsK_begin {t : Nat} {M : List (List Int)} : leV (.so t (rowsA t M)) (.so t (rowsK t 0 M)) := leV_sem fun _ _ _ h => by
 rw [<- rowsK_zero]
 exact h.so_map h.so_two (fun _ _ hx hr => empty_row hx hr) (fun _ hb => ⟨hb, rfl⟩)
theorem rowsK_map {t k : Nat} {M : List (List Int)} {f : AV -> AV} (h0 : f .any = .any) (h1 : f (.sl 0 1 []) = .sl 0 1 []) (h2 : ∀ i r, f (.sl (subT t i) 1 (List.map vi r)) = .sl (subT t i) 1 (List.map vi r)) : (rowsK t k M).map f = rowsK t k M := by
 refine rowsK_ext (by simp [rowsK_len]) fun i hi => ?_
 rw [List.getElem?_map, rowsK_get hi, Option.map_some]
 congr 1
 split
 ·exact h0
 ·unfold rowK
  split
  ·exact h1
  ·exact h2 _ _
@[go_sem] theorem rowsK_store {t k t0 es i o : Nat} {ys : List AV} {M : List (List Int)} (h : t0 < 1048576) (h0 : (0 = t0) = False) : (rowsK t k M).map (storeRow t0 es i o ys) = rowsK t k M := rowsK_map rfl (by simp only [storeRow, h0, if_false]) fun i r => by simp only [storeRow, sub_lit h, if_false]
theorem rowsK_retag {t k b : Nat} {M : List (List Int)} (hb : b < 1048576) (h0 : ¬ 0 = b) (hr : ¬ root t = root b) (hk : k < M.length -> M[k]! ≠ []) : (rowsK t k M).map (retagRow (subT t k) b) = rowsK t (k + 1) M := by
 refine rowsK_ext (by simp [rowsK_len]) fun i hi => ?_
 rw [List.getElem?_map, rowsK_get hi, Option.map_some]
 by_cases h1 : i < k
 ·rw [if_pos h1, if_pos (by omega)]; rfl
 rw [if_neg h1]
 have hs := sub_big t k
 unfold rowK
 by_cases h2 : i = k
 ·subst h2
  rw [if_pos (Nat.lt_succ_self i), if_neg (hk hi)]
  simp only [retagRow, if_true, root_sub, hr, if_false]
 ·rw [if_neg (by omega : ¬ i < k + 1)]
  have h3 : ¬ subT t i = subT t k := fun e => h2 (sub_inj e).2
  have h4 : ¬ subT t i = b := fun e => by have := sub_big t i; omega
  have h5 : ¬ 0 = subT t k := by omega
  split <;> simp only [retagRow, h3, h4, h5, h0, if_false]
theorem rowsK_drop {t k : Nat} {M : List (List Int)} : rowsLe (root t) (rowsK t k M) (rowsK t (k + 1) M) := by
 refine ⟨by rw [rowsK_len, rowsK_len], fun i x y hx hy => ?_⟩
 have hi : i < M.length := by have := (List.getElem?_eq_some_iff.1 hx).1; rwa [rowsK_len] at this
 rw [rowsK_get hi] at hx hy
 obtain rfl := Option.some.inj hx
 obtain rfl := Option.some.inj hy
 by_cases h1 : i < k
 ·rw [if_pos h1, if_pos (by omega)]
  exact ⟨rfl, .inl rfl⟩
 rw [if_neg h1]
 by_cases h2 : i < k + 1
 ·rw [if_pos h2]
  exact ⟨rowK_like _ _ _, .inr (.inl rfl)⟩
 ·rw [if_neg h2]
  exact ⟨rowK_like _ _ _, .inl rfl⟩
theorem rowsK_freeze {t k : Nat} {M : List (List Int)} {p : Nat -> Bool} (h : p (root t) = false) : (rowsK t k M).map (freezeRow p) = rowsK t k M := rowsK_map rfl rfl fun i r => by simp only [freezeRow, sub_two, root_sub, h, Bool.false_eq_true, and_false, if_false]
def loopP (rules : List RD) (s : Int) (W : List (List TmD)) (k : Nat) : List (List TmD) := W.mapIdx fun c p => if c < k then starF (normP p) (lettersF (sentF rules s c)) else normP p
theorem loopP_zero (rules : List RD) (s : Int) (W : List (List TmD)) : loopP rules s W 0 = W.map normP := by
 unfold loopP
 apply List.ext_getElem
 ·simp
 ·intro i h1 h2; simp
theorem loopP_len (rules : List RD) (s : Int) (W : List (List TmD)) (k : Nat) : (loopP rules s W k).length = W.length := by simp [loopP]
theorem loopP_end (rules : List RD) (s : Int) (W : List (List TmD)) : loopP rules s W W.length = loopW rules s W := by
 unfold loopP loopW
 apply List.ext_getElem
 ·simp
 ·intro i h1 h2
  simp only [List.length_mapIdx] at h1
  simp [h1]
theorem loopP_at {rules : List RD} {s : Int} {W : List (List TmD)} {k : Nat} (h : k < W.length) : (loopP rules s W k)[k]! = normP W[k]! := by
 rw [getElem!_pos _ k (by rw [loopP_len]; exact h), getElem!_pos W k h]
 simp [loopP]
theorem loopP_step {rules : List RD} {s : Int} {W : List (List TmD)} {k : Nat} (h : k < W.length) : loopP rules s W (k + 1) = (loopP rules s W k).set k (starF (normP W[k]!) (lettersF (sentF rules s k))) := by
 apply List.ext_getElem
 ·simp [loopP]
 ·intro i h1 h2
  rw [List.getElem_set]
  simp only [loopP, List.length_mapIdx] at h1
  simp only [loopP, List.getElem_mapIdx]
  by_cases e : k = i
  ·subst e
   rw [if_pos (by omega), if_pos rfl, getElem!_pos W k h]
  ·rw [if_neg e]
   by_cases h3 : i < k
   ·rw [if_pos (by omega), if_pos h3]
   ·rw [if_neg (by omega), if_neg h3]
def lpTree : Tr := .front 0 (.front 2 (.front 3 (.front 5 (.front 8 (.alt (.one 1 (.alt (.one 4 (.front 6 (.alt (.one 7 (.one 9 (.one 10 (.front 11 (.one 12 .done))))) (.one 9 (.one 7 (.one 10 (.front 11 (.one 12 .done)))))))) (.one 9 (.one 4 (.front 6 (.one 7 (.one 10 (.front 11 (.one 12 .done))))))))) (.alt (.one 4 (.front 6 (.alt (.one 1 (.alt (.one 7 (.one 9 (.one 10 (.front 11 (.one 12 .done))))) (.one 9 (.one 7 (.one 10 (.front 11 (.one 12 .done))))))) (.alt (.one 7 (.alt (.one 1 (.one 9 (.one 10 (.front 11 (.one 12 .done))))) (.one 9 (.alt (.one 1 (.one 10 (.front 11 (.one 12 .done)))) (.one 10 (.one 1 (.front 11 (.one 12 .done)))))))) (.one 9 (.alt (.one 1 (.one 7 (.one 10 (.front 11 (.one 12 .done))))) (.one 7 (.alt (.one 1 (.one 10 (.front 11 (.one 12 .done)))) (.one 10 (.one 1 (.front 11 (.one 12 .done)))))))))))) (.one 9 (.alt (.one 1 (.one 4 (.front 6 (.one 7 (.one 10 (.front 11 (.one 12 .done))))))) (.one 4 (.front 6 (.alt (.one 1 (.one 7 (.one 10 (.front 11 (.one 12 .done))))) (.one 7 (.alt (.one 1 (.one 10 (.front 11 (.one 12 .done)))) (.one 10 (.one 1 (.front 11 (.one 12 .done)))))))))))))))))
theorem starF_len (p : List TmD) (L : List Int) : (starF p L).length <= p.length + 1 := by
 unfold starF
 split
 ·omega
 ·have := normP_len (p ++ [starT L]); rw [List.length_append] at this; simpa using this
theorem con_lloop (m : MD) (s : Int) (W : List (List TmD)) (h : CloudOk m s W) (hr : ∀ r ∈ m.rules, 0 <= r.channel /\ r.channel < m.places.length /\ 0 <= r.letter /\ r.letter < m.letters.length) (hrl : m.rules.length <= 1000)
    (hw : ∀ p ∈ W, p.length <= 23) : Con Tryz.prog 44 [vM m, vCl s W] [] fun r _ => r = .tup [vCl s (loopW m.rules s W), vi 0] := by
  refine Con.frozX ?_
  refine Con.intro Tryz.func44 rfl Tryz.ntmps44 Tryz.results44 (by kernel_rfl) (by simp) 0 (by simp) ?_
  have c1 := con_lcheck m s W h
  have c2 := con_lnormal m s W h
  simp only [vM, cM, vss, vCl] at c1 c2
  have hf := h.few
  simp only [go_sem, cM, vss, vCl]
  refine CallU.free c1 (by simp only [go_sem]) (by simp only [go_sem]) ?_
  rintro q bx rfl
  simp only [go_sem, List.length_map]
  refine ⟨Nat.le_refl _, by omega, by omega, ?_⟩
  refine LoopK.intro (fun i : Nat => ⟨96, [(2, .pb 0 0), (3, .pb 1 0), (4, .pb 2 0), (7, vt 1536 (sentL (m.rules.take i) s m.places.length)), (25, .sl 0 14 (m.rules.map vRule)), (26, vi m.rules.length), (27, vi i)], cM m :: [vi s, .sl 0 1 (W.map vPr)] :: [.any, .any] :: Rk 14 i⟩)
    (fun i => m.rules.length - i) (fun i => i <= m.rules.length) 0 (Nat.zero_le _) ?_ ?_
  · simp only [go_sem, cM, vss, List.take_zero, sentL_zero, Rk, List.replicate_zero]
    exact leV_slso (by omega) rowsLe_nils
  rintro i hi
  have hB := Rk_len 14 i
  have n0 := fun L : List (List AV) => app_at0 (L := L) hB
  have s0 := fun (L : List (List AV)) z => app_set0 (L := L) (z := z) hB
  have hwi : IntKind.i64.wrap (i + 1) = i + 1 := wrap_in (by omega) (by omega)
  by_cases h4 : i < m.rules.length
  case pos =>
    have hg := getRule h4
    have hrr := hr _ (mem_bangI h4)
    have etk : m.rules.take (i + 1) = m.rules.take i ++ [m.rules[i]!] := by rw [List.take_succ_eq_append_getElem h4, <- getElem!_pos m.rules i h4]
    have hsl := fun c => sentF_len (m.rules.take i) s c
    obtain ⟨c, ec⟩ : ∃ c : Nat, m.rules[i]!.channel = c := ⟨_, (Int.toNat_of_nonneg hrr.1).symm⟩
    have hcn : c < m.places.length := by omega
    generalize hri : m.rules[i]! = r at hg hrr ec etk
    have e1 : vRule r = .ag [vStr r.name, vi r.src, vi r.dst, vs 0 r.need, vs 0 r.give, vs 0 r.move, vi r.channel, vi r.act, vi r.letter, vs 0 r.path, vs 0 r.next, .sl 0 3 (r.takes.map vTake), vs 0 r.makes, vi r.second] := rfl
    rw [e1, ec] at hg
    by_cases b1 : r.act = 1
    case neg =>
      have hb1 : (r.act == 1) = false := beq_eq_false_iff_ne.2 b1
      have hno : staysB r s = false := by unfold staysB; rw [hb1]; rfl
      simp only [go_sem, h4, hg, hB, n0, s0, hb1, cM, vss, List.length_map, List.cons_append, List.length_cons, hwi]
      refine roundK.intro (i + 1) (by omega) (by omega) ?_
      simp only [go_sem, etk, sentL_no hno, Rk_succ]
      all_goals exact leB_RkA ⟨leC_any _ 14 rfl, trivial⟩
    have hb1 : (r.act == 1) = true := beq_iff_eq.2 b1
    by_cases b2 : r.src = s
    case neg =>
      have hb2 : (r.src == s) = false := beq_eq_false_iff_ne.2 b2
      have hno : staysB r s = false := by unfold staysB; rw [hb1, hb2]; rfl
      simp only [go_sem, h4, hg, hB, n0, s0, hb1, hb2, cM, vss, List.length_map, List.cons_append, List.length_cons, hwi]
      refine roundK.intro (i + 1) (by omega) (by omega) ?_
      simp only [go_sem, etk, sentL_no hno, Rk_succ]
      all_goals exact leB_RkA ⟨leC_any _ 14 rfl, trivial⟩
    have hb2 : (r.src == s) = true := beq_iff_eq.2 b2
    by_cases b3 : r.dst = s
    case neg =>
      have hb3 : (r.dst == s) = false := beq_eq_false_iff_ne.2 b3
      have hno : staysB r s = false := by unfold staysB; rw [hb1, hb2, hb3]; rfl
      simp only [go_sem, h4, hg, hB, n0, s0, hb1, hb2, hb3, cM, vss, List.length_map, List.cons_append, List.length_cons, hwi]
      refine roundK.intro (i + 1) (by omega) (by omega) ?_
      simp only [go_sem, etk, sentL_no hno, Rk_succ]
      all_goals exact leB_RkA ⟨leC_any _ 14 rfl, trivial⟩
    have hb3 : (r.dst == s) = true := beq_iff_eq.2 b3
    have hyes : staysB r s = true := by unfold staysB; rw [hb1, hb2, hb3]; rfl
    have hsy := sentL_yes (rules := m.rules.take i) (np := m.places.length) hyes ec hcn
    have hln := sentL_len (m.rules.take i) s m.places.length
    have hgt := gett (t := 1536) (i := c) (M := sentL (m.rules.take i) s m.places.length) (by rw [hln]; exact hcn)
    rw [sentL_at hcn] at hgt
    have hslc := hsl c
    rw [List.length_take] at hslc
    generalize hM : sentL (m.rules.take i) s m.places.length = M at hgt hsy hln
    generalize sentF (m.rules.take i) s c = row at hgt hsy hslc
    simp only [go_sem, h4, hg, hB, n0, s0, hb1, hb2, hb3, cM, vss, List.length_map, List.cons_append, List.length_cons]
    refine DrawK.effs0 0 [] [0, 1] 11 (.one 11 (.front 12 (.one 13 .done))) (some (2, .alt (.one 2 (.one 11 (.front 12 (.one 13 .done)))) (.one 11 (.one 2 (.front 12 (.one 13 .done)))))) [vi m.kind, .sl 0 1 (m.states.map vStr), .sl 0 1 (m.places.map vStr), .sl 0 1 (m.letters.map vStr), .sl 0 1 (m.ranks.map vi), vi m.levels, vi m.age, .sl 0 14 (m.rules.map vRule), vi m.start.n, .sl 0 2 (m.start.kids.map vV)] mixed (by kernel_rfl) (by kernel_rfl) (by simp only [go_sem]) (by simp only [go_sem]) ?_
    simp only [go_sem, n0, hgt, hln, hcn, List.length_map, List.length_cons]
    have ec2 : List.map vi row ++ [AV.sc (Value.int IntKind.i64 r.letter)] = (row ++ [r.letter]).map vi := by rw [List.map_append]; rfl
    have hput : mapB (putLeaf 1536 c (AV.sl (subT 1536 c) 1 ((row ++ [r.letter]).map vi))) (Rk 14 i) = Rk 14 i := mapB_Rk rfl 14 i
    repeat' (first
      | with_reducible apply andK_mk
      | (refine ⟨by simp only [roomFor]; omega, ?_⟩
         refine roundK.intro (i + 1) (by omega) (by omega) ?_
         rw [ec2, rowsA_killset2 (t := 1536) (by omega)]
         simp only [go_sem, etk, hsy, hwi, hput, Rk_succ]
         exact leB_RkA (x := [[_, _, _, _, _, _, _, _, _, _, _, _, _, _]]) ⟨leC_any _ 14 rfl, trivial⟩)
      | simp only [go_sem, n0, hln, hcn, List.length_map, List.length_cons])
  obtain rfl : i = m.rules.length := by omega
  simp only [go_sem, h4, cM, vss, List.take_length]
  refine CallU.free c2 (by simp only [go_sem]) (by simp only [go_sem]) ?_
  rintro q bx rfl
  have hSl := sentL_len m.rules s m.places.length
  have hSa := fun c (hc : c < m.places.length) => sentL_at (rules := m.rules) (s := s) hc
  generalize sentL m.rules s m.places.length = S at hSl hSa
  have hW := h.len
  simp only [go_sem, hB, n0, s0, List.cons_append, List.length_cons]
  refine LoopK.intro (fun k : Nat => ⟨96, [(2, .pb 0 0), (3, .pb 1 0), (4, .pb 2 0), (10, .pb (m.rules.length + 1 + 1 + 1) 0), (65, .so 1536 (rowsK 1536 k S)), (66, vi S.length), (67, vi k)], cM m :: [vi s, .sl 0 1 (W.map vPr)] :: [.any, .any] :: (Rk 14 m.rules.length ++ [[vi s, .sl 4162 1 ((loopP m.rules s W k).map vPr)]])⟩)
    (fun k => S.length - k) (fun k => k <= S.length) 0 (Nat.zero_le _) ?_ ?_
  · simp only [go_sem, cM, vss, loopP_zero]
    exact rowsK_begin
  rintro k hk
  by_cases h5 : k < S.length
  case neg =>
    have e := loopP_end m.rules s W
    rw [show W.length = k by omega] at e
    simp only [go_sem, h5, n0, cM, vss, e]
    exact leV_refl _
  have hkw : k < W.length := by omega
  have hg := getK (t := 1536) h5
  have hwk : IntKind.i64.wrap (k + 1) = k + 1 := wrap_in (by omega) (by omega)
  rw [hSa k (by omega)] at hg
  have hst := loopP_step (rules := m.rules) (s := s) hkw
  have hat := loopP_at (rules := m.rules) (s := s) hkw
  have hXl := loopP_len m.rules s W k
  have hLl := sentF_len m.rules s k
  have hSk := hSa k (by omega)
  generalize sentF m.rules s k = L at hg hst hLl hSk
  generalize loopP m.rules s W k = X at hst hat hXl
  have hkx : k < X.length := by omega
  have hgx := getPr hkx
  rw [hat] at hgx
  have hv := h.ws _ (mem_bangI hkw)
  have hFl := letters_len L
  have cst := con_lstarred (normP W[k]!) (lettersF L) (normP_ok hv.ok) (normP_red _) (lenP_norm hv.lenP) (letters_asc L) (by omega)
  have hmod := mod_Pr (D := X) (q := k) (x := starF (normP W[k]!) (lettersF L)) hkx
  have hln : (starF (normP W[k]!) (lettersF L)).length <= 24 := by
    have h1 := starF_len (normP W[k]!) (lettersF L)
    have h2 := normP_len W[k]!
    have h3 := hw _ (mem_bangI hkw)
    omega
  have hgs := getPr (l := X.set k (starF (normP W[k]!) (lettersF L))) (i := k) (by rw [List.length_set]; exact hkx)
  have egs : (X.set k (starF (normP W[k]!) (lettersF L)))[k]! = starF (normP W[k]!) (lettersF L) := by
    rw [getElem!_pos _ k (by rw [List.length_set]; exact hkx), List.getElem_set_self]
  rw [egs] at hgs
  have hk2 : k < (X.set k (starF (normP W[k]!) (lettersF L))).length := by rw [List.length_set]; exact hkx
  have h24 : ¬ 24 < (starF (normP W[k]!) (lettersF L)).length := by omega
  simp only [vPr] at cst hmod
  by_cases hL0 : L = []
  · subst hL0
    have cs := con_lsort1 [] (by simp)
    have cc := con_lcompact1 [] (by simp)
    have e0 : lettersF [] = [] := letters_one (by simp)
    unfold rowK at hg
    rw [if_pos rfl] at hg
    rw [e0] at cst hmod hgs hk2 h24 hst
    simp only [go_sem, h5, hg, cM, vss]
    refine CallU.free cs (by simp only [go_sem]) (by simp only [go_sem]) ?_
    rintro q bx rfl
    simp only [go_sem]
    refine DrawK.walk 11 mixed (by kernel_rfl) ?_
    simp only [go_sem, n0, hkx, hgx, List.length_map]
    refine CallY.mk cc (by simp only [go_sem]) (by simp only [go_sem]) (.inl (by simp only [go_sem])) ?_
    simp only [go_sem]
    refine CallY.mk cst (by simp only [go_sem]) (by simp only [go_sem]) (.inl (by simp only [go_sem])) ?_
    simp only [go_sem, n0, hkx, hmod, hk2, hgs, h24, hwk, List.length_map]
    refine roundK.intro (k + 1) (by omega) (by omega) ?_
    simp only [go_sem, hst]
    exact leV_soso rowsK_drop
  unfold rowK at hg
  rw [if_neg hL0] at hg
  have hrt : mapB (retagLeaf (subT 1536 k) 7000) (Rk 14 m.rules.length) = Rk 14 m.rules.length := mapB_Rk rfl 14 _
  have hrk : (rowsK 1536 k S).map (retagRow (subT 1536 k) 7000) = rowsK 1536 (k + 1) S := rowsK_retag (by omega) (by omega) (by decide) (fun _ => by rw [hSk]; exact hL0)
  have hgv : ∀ y, mapB (giveLeaf [7000] [{ t := 7000, es := 1, n := L.length, y := y }]) (Rk 14 m.rules.length) = Rk 14 m.rules.length := fun y => mapB_Rk rfl 14 _
  have hLp : 0 < L.length := List.length_pos_iff.2 hL0
  have cs := conw_lsort L hLp (by omega)
  have hsl := (List.mergeSort_perm L fun x y => decide (x <= y)).length_eq
  have cc := conc_lcompact (sortI L) (by show (L.mergeSort _).length <= _; omega)
  simp only [go_sem, h5, hg, cM, vss]
  refine CallU.backR (subT 1536 k) 7000 [.sl 7000 1 (L.map vi)] cs (by simp only [go_sem]) ⟨by simp only [go_sem], by omega, by decide⟩ (by simp only [go_sem]) (by simp only [go_sem, hrt, hrk]) (by simp only [go_sem]) ?_
  rintro r ys ⟨rfl, rfl⟩
  simp only [go_sem, hrt, hrk, hgv, decide_eq_true hLp]
  have cst2 : Con Tryz.prog 87 [.sl 0 2 ((normP W[k]!).map vTm), .sl 0 1 ((uniq (sortI L)).map vi)] [] fun r _ => r = .sl 0 2 ((starF (normP W[k]!) (lettersF L)).map vTm) := cst
  have hf1 : (rowsK 1536 (k + 1) S).map (freezeRow fun t => [5378].contains t) = rowsK 1536 (k + 1) S := rowsK_freeze (by decide)
  have hb1 : ∀ ys, mapB (storeLeaf 4162 1 k 0 ys) (Rk 14 m.rules.length) = Rk 14 m.rules.length := fun ys => mapB_Rk rfl 14 _
  have hb2 : ∀ ts, mapB (killS ts) (Rk 14 m.rules.length) = Rk 14 m.rules.length := fun ts => mapB_Rk rfl 14 _
  have hb3 : ∀ p, mapB (freezeLeaf p) (Rk 14 m.rules.length) = Rk 14 m.rules.length := fun p => mapB_Rk rfl 14 _
  refine DrawK.meet ⟨96, [(2, .pb 0 0), (3, .pb 1 0), (4, .pb 2 0), (10, .pb (m.rules.length + 1 + 1 + 1) 0), (65, .so 1536 (rowsK 1536 (k + 1) S)), (66, vi S.length), (67, vi k), (11, vi k)], cM m :: [vi s, .sl 0 1 (W.map vPr)] :: [.any, .any] :: (Rk 14 m.rules.length ++ [[vi s, .sl 4162 1 ((X.set k (starF (normP W[k]!) (lettersF L))).map vPr)]])⟩ ?_ ?_
  · refine DrawK.tree lpTree mixed (by kernel_rfl) ?_
    unfold lpTree
    simp only [go_sem, n0, hkx, hgx, List.length_map]
    repeat' (first
      | with_reducible apply andK_mk
      | (refine CallU.lend cc (by simp only [go_sem]) (by simp only [go_sem]) ?_
         rintro r rfl
         simp only [go_sem, hgx])
      | (refine CallU.freeze cst2 (by simp only [go_sem, hb2]) (by simp only [go_sem]) ?_
         rintro r bx rfl
         simp only [go_sem, n0, hkx, hmod, hb1, hb2, hb3, cM, vss, List.length_map])
      | simp only [go_sem, n0, hkx, hgx, hb2, List.length_map])
  simp only [go_sem, n0, hk2, hgs, h24, hwk, cM, vss, List.length_map]
  refine roundK.intro (k + 1) (by omega) (by omega) ?_
  simp only [go_sem, hst]
end Go.AM
