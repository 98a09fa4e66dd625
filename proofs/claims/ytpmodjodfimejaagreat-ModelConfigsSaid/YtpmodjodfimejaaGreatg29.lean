/-
  ModelLimits: the walk of the law.
-/
import Derived.Test.YtpmodjodfimejaaGreatg24
import Derived.Test.YtpmodjodfimejaaGreatg28
/-! ## KT -/
namespace Go.AM
open Go Go.Proofs Go.RowKit
set_option maxRecDepth 100000
set_option maxHeartbeats 8000000
def ab1 (a : ByteArray) (i : Nat) : ByteArray := a ++ strOf [97 + (i : Int)]
def abL (a : ByteArray) (n : Nat) : List ByteArray := (List.range n).map (ab1 a)
theorem abL_len (a : ByteArray) (n : Nat) : (abL a n).length = n := by simp [abL]
theorem abL_succ (a : ByteArray) (n : Nat) : abL a (n + 1) = abL a n ++ [ab1 a n] := by unfold abL; rw [List.range_succ, List.map_append]; rfl
theorem ab1_size (a : ByteArray) (i : Nat) : (ab1 a i).size = a.size + 1 := by unfold ab1; rw [ByteArray.size_append]; rfl
theorem abL_size {a : ByteArray} {n : Nat} : ∀ s ∈ abL a n, s.size = a.size + 1 := fun s hs => by
 obtain ⟨i, _, rfl⟩ := List.mem_map.1 hs
 exact ab1_size a i
def sB : ByteArray := ⟨#[115]⟩
def xB : ByteArray := ⟨#[120]⟩
def yB : ByteArray := ⟨#[121]⟩
def nameR (a : ByteArray) : RD := ⟨a, 0, 0, [], [], [], 0, 0, 0, [], [], [], [], 0⟩
def withS (m : MD) (i : Nat) : MD := { m with states := m.states ++ abL sB i }
def withR (m : MD) (i : Nat) : MD := { m with rules := m.rules ++ (abL xB i).map nameR }
def withP (m : MD) (i : Nat) : MD := { m with places := m.places ++ abL yB i }
theorem withS_zero (m : MD) : withS m 0 = m := by unfold withS; rw [show abL sB 0 = [] from rfl, List.append_nil]
theorem withS_succ (m : MD) (i : Nat) : (withS m i).states.map vStr ++ [vStr (⟨#[115]⟩ ++ strOf [97 + (i : Int)])] = (withS m (i + 1)).states.map vStr := by
 have e : (withS m (i + 1)).states = (withS m i).states ++ [ab1 sB i] := by unfold withS; rw [abL_succ, ← List.append_assoc]
 rw [e, List.map_append]; rfl
theorem withP_succ (m : MD) (i : Nat) : (withP m i).places.map vStr ++ [vStr (⟨#[121]⟩ ++ strOf [97 + (i : Int)])] = (withP m (i + 1)).places.map vStr := by
 have e : (withP m (i + 1)).places = (withP m i).places ++ [ab1 yB i] := by unfold withP; rw [abL_succ, ← List.append_assoc]
 rw [e, List.map_append]; rfl
theorem withR_succ (m : MD) (i : Nat) : (withR m (i + 1)).rules = (withR m i).rules ++ [nameR (ab1 xB i)] := by unfold withR; rw [abL_succ, List.map_append, ← List.append_assoc]; rfl
theorem withR_zero (m : MD) : withR m 0 = m := by unfold withR; rw [show abL xB 0 = [] from rfl, List.map_nil, List.append_nil]
theorem withP_zero (m : MD) : withP m 0 = m := by unfold withP; rw [show abL yB 0 = [] from rfl, List.append_nil]
def nameA (a : ByteArray) : AV := .ag [vStr a, vi 0, vi 0, .nil, .nil, .nil, vi 0, vi 0, vi 0, .nil, .nil, .nil, .nil, vi 0]
theorem withR_le (m : MD) (i : Nat) : leV (.sl 0 14 ((withR m i).rules.map vRule ++ [nameA (ab1 xB i)])) (.sl 0 14 ((withR m (i + 1)).rules.map vRule)) := by
 rw [withR_succ, List.map_append]
 refine leV_slE (by simp) (fun y hy => ?_) ?_
 ·rw [← List.map_append] at hy
  obtain ⟨x, _, rfl⟩ := List.mem_map.1 hy; rfl
 ·have e1 : Sub .nil (vs 0 []) := Sub.nil 1
  have e3 : Sub .nil (.sl 0 3 (([] : List (Int × Int × Int)).map vTake)) := Sub.nil 3
  have ef : ∀ a b : List AV, flat (a ++ b) = flat a ++ flat b := fun a b => by simp [flat]
  have er : ∀ l : List AV, PW Sub l l := fun l => ⟨rfl, fun j x y h1 h2 => by rw [h1] at h2; cases h2; exact Sub.refl _⟩
  rw [ef, ef]
  refine PW.append (er _) ?_
  exact PW.cons (Sub.refl _) (PW.cons (Sub.refl _) (PW.cons (Sub.refl _) (PW.cons e1 (PW.cons e1 (PW.cons e1 (PW.cons (Sub.refl _) (PW.cons (Sub.refl _) (PW.cons (Sub.refl _) (PW.cons e1 (PW.cons e1 (PW.cons e3 (PW.cons e1 (PW.cons (Sub.refl _) (PW.nil _))))))))))))))
theorem withS_len {m : MD} (h : LenM m) (hn : m.states.length + m.places.length + m.letters.length + m.rules.length ≤ 1000) {i : Nat} (hi : i ≤ 20) : LenM (withS m i) := by
 refine ⟨?_, ?_, h.ranks, h.rules, h.start⟩
 ·unfold withS namesOf
  simp only [List.length_append, List.length_map, abL_len]
  omega
 ·intro s hs
  have hh := h.sizes s
  unfold withS namesOf at hs
  unfold namesOf at hh
  simp only [List.mem_append] at hs hh
  rcases hs with ((((hs | hs) | hs) | hs) | hs)
  ·exact hh (.inl (.inl (.inl hs)))
  ·rw [abL_size s hs, show sB.size = 1 from rfl]; omega
  ·exact hh (.inl (.inl (.inr hs)))
  ·exact hh (.inl (.inr hs))
  ·exact hh (.inr hs)
theorem withP_len {m : MD} (h : LenM m) (hn : m.states.length + m.places.length + m.letters.length + m.rules.length ≤ 1000) {i : Nat} (hi : i ≤ 20) : LenM (withP m i) := by
 refine ⟨?_, ?_, h.ranks, h.rules, h.start⟩
 ·unfold withP namesOf
  simp only [List.length_append, List.length_map, abL_len]
  omega
 ·intro s hs
  have hh := h.sizes s
  unfold withP namesOf at hs
  unfold namesOf at hh
  simp only [List.mem_append] at hs hh
  rcases hs with (((hs | (hs | hs)) | hs) | hs)
  ·exact hh (.inl (.inl (.inl hs)))
  ·exact hh (.inl (.inl (.inr hs)))
  ·rw [abL_size s hs, show yB.size = 1 from rfl]; omega
  ·exact hh (.inl (.inr hs))
  ·exact hh (.inr hs)
theorem withR_len {m : MD} (h : LenM m) (hn : m.states.length + m.places.length + m.letters.length + m.rules.length ≤ 1000) {i : Nat} (hi : i ≤ 20) : LenM (withR m i) := by
 have en : ((abL xB i).map nameR).map RD.name = abL xB i := by rw [List.map_map]; exact List.map_id _
 refine ⟨?_, ?_, h.ranks, fun r hr => ?_, h.start⟩
 ·unfold withR namesOf
  simp only [List.length_append, List.length_map, abL_len]
  omega
 ·intro s hs
  have hh := h.sizes s
  unfold withR namesOf at hs
  unfold namesOf at hh
  simp only [List.map_append, en, List.mem_append] at hs hh
  rcases hs with (((hs | hs) | hs) | (hs | hs))
  ·exact hh (.inl (.inl (.inl hs)))
  ·exact hh (.inl (.inl (.inr hs)))
  ·exact hh (.inl (.inr hs))
  ·exact hh (.inr hs)
  ·rw [abL_size s hs, show xB.size = 1 from rfl]; omega
 ·rcases List.mem_append.1 hr with hr | hr
  ·exact h.rules r hr
  ·obtain ⟨a, _, rfl⟩ := List.mem_map.1 hr
   unfold nameR
   exact ⟨⟨by simp, by simp, by simp, by simp, by simp, by simp, by simp⟩, by simp, by simp⟩
theorem check_kind {m : MD} (h : checkF m = 0) : betweenB m.kind 1 6 = true := (checkF_zero h).1
theorem withS_check {m : MD} (h : checkF m = 0) : checkF (withS m 9) = 1 := by
 have hk := check_kind h
 have hs : sizedB (withS m 9) = false := by
  have : betweenB ((m.states ++ abL sB 9).length : Nat) 1 8 = false := by
   unfold betweenB
   rw [List.length_append, abL_len, Bool.and_eq_false_iff]
   exact .inr (decide_eq_false (by omega))
  unfold sizedB withS
  simp only [this, Bool.false_and]
 unfold checkF
 rw [show (withS m 9).kind = m.kind from rfl, hk, hs]; rfl
theorem withR_check {m : MD} (h : checkF m = 0) : checkF (withR m 13) = 1 := by
 have hk := check_kind h
 have hs : sizedB (withR m 13) = false := by
  unfold sizedB withR
  have : ¬ ((m.rules ++ (abL xB 13).map nameR).length ≤ 12) := by rw [List.length_append, List.length_map, abL_len]; omega
  simp only [decide_eq_false this, Bool.and_false, Bool.false_and]
 unfold checkF
 rw [show (withR m 13).kind = m.kind from rfl, hk, hs]; rfl
theorem lim_six {k : Int} (h : 1 ≤ k ∧ k ≤ 6) : lim k 1 ≤ 6 := by
 have hc : k = 1 ∨ k = 2 ∨ k = 3 ∨ k = 4 ∨ k = 5 ∨ k = 6 := by omega
 rcases hc with rfl | rfl | rfl | rfl | rfl | rfl <;> decide
theorem withP_check {m : MD} (h : checkF m = 0) : checkF (withP m 7) = 1 := by
 have hk := check_kind h
 have hk2 : 1 ≤ m.kind ∧ m.kind ≤ 6 := by unfold betweenB at hk; simpa using hk
 have hl := lim_six hk2
 have hs : sizedB (withP m 7) = false := by
  have : betweenB ((m.places ++ abL yB 7).length : Nat) (lim m.kind 0) (lim m.kind 1) = false := by
   unfold betweenB
   rw [List.length_append, abL_len, Bool.and_eq_false_iff]
   exact .inr (decide_eq_false (by omega))
  unfold sizedB withP
  simp only [this, Bool.and_false, Bool.false_and]
 unfold checkF
 rw [show (withP m 7).kind = m.kind from rfl, hk, hs]; rfl
theorem DealtG.few1000 {k : Int} {ns np nl : Nat} {ra : List Int} {lv ag : Int} {rules : List RD} {st : CV} (h : DealtG k ns np nl ra lv ag rules st) : (dealtG k ns np nl ra lv ag rules st).states.length + (dealtG k ns np nl ra lv ag rules st).places.length + (dealtG k ns np nl ra lv ag rules st).letters.length + (dealtG k ns np nl ra lv ag rules st).rules.length ≤ 20 := by
 have h2 := h.few
 have h3 := h.num.states
 have h4 := h.num.few
 have l1 : (dealtG k ns np nl ra lv ag rules st).states.length = ns := nmL_len _ _
 have l2 : (dealtG k ns np nl ra lv ag rules st).places.length = np := nmL_len _ _
 have l3 : (dealtG k ns np nl ra lv ag rules st).letters.length = nl := nmL_len _ _
 have l4 : (dealtG k ns np nl ra lv ag rules st).rules.length = rules.length := rfl
 omega
theorem con_limitsLaw (l : List Int) : Con Tryz.prog 7 [vs 0 l] [] fun r _ => r = vb true := by
 refine Con.intro Tryz.func7 rfl Tryz.ntmps7 Tryz.results7 (by kernel_rfl) (by simp) 0 (by simp) ?_
 simp only [go_sem]
 refine CallU.free con_sane15 (by simp only [go_sem]) (by simp only [go_sem]) ?_
 rintro r bx rfl
 simp only [go_sem]
 refine CallU.free (con_dFew l) (by simp only [go_sem]) (by simp only [go_sem]) ?_
 rintro r bx rfl
 by_cases hf : (l.length : Int) ≤ 400
 case neg =>
  simp only [go_sem, hf]
  refine CallU.free con_sane15 (by simp only [go_sem]) (by simp only [go_sem]) ?_
  rintro r bx rfl
  simp only [go_sem]
 simp only [go_sem, hf]
 refine CallU.news (bx0 := []) (con_dNew l) (by simp only [go_sem]) (by simp only [go_sem]) (by simp only [go_sem]) (by simp only [go_sem]) (by simp only [go_sem]) ?_
 rintro r b ⟨rfl, rfl⟩
 simp only [go_sem]
 have hd0 : Dk l (0, 11400714819323198485) := deck_dk hf
 have hn_k := nextV_lt (l := l) (s := (0, 11400714819323198485)) (n := 6) (by omega)
 have hd_1 : Dk l (nextS l (0, 11400714819323198485) 6) := nextS_dk hd0
 refine CallU.boxes (i := 0) (is := []) (bx0 := [deckA l (0, 11400714819323198485)]) (con_dNext l (0, 11400714819323198485) 6 hd0) (by simp only [go_sem]) (by simp only [go_sem]) (by simp only [go_sem]) (by simp only [go_sem]) (by simp only [go_sem]) ?_
 rintro r b ⟨rfl, rfl⟩
 obtain ⟨k, ek, hk⟩ : ∃ k : Int, 1 + nextV l (0, 11400714819323198485) 6 = k ∧ (1 ≤ k ∧ k ≤ 6) := ⟨_, rfl, by omega⟩
 have hw_k : IntKind.i64.wrap (1 + nextV l (0, 11400714819323198485) 6) = k := by rw [wrap_in (by omega) (by omega), ek]
 simp only [go_sem, hw_k]
 generalize nextS l (0, 11400714819323198485) 6 = s1 at hd_1 ⊢
 refine CallU.boxes (i := 0) (is := []) (bx0 := [deckA l s1]) (con_dModelX l s1 k hd_1 hk) (by simp only [go_sem]) (by simp only [go_sem]) (by simp only [go_sem]) (by simp only [go_sem]) (by simp only [go_sem]) ?_
 rintro r b ⟨ns, np, nl, ra, lv, ag, rules, st, s2, hM, hd_2, rfl, rfl⟩
 have hL := hM.len
 have hC := hM.check
 have h20 := hM.few1000
 generalize dealtG k ns np nl ra lv ag rules st = m at hL hC h20 ⊢
 simp only [go_sem, vM, cM, vss]
 have hn_c := nextV_lt (l := l) (s := s2) (n := 3) (by omega)
 refine CallU.boxes (i := 0) (is := []) (bx0 := [deckA l s2]) (con_dNext l s2 3 hd_2) (by simp only [go_sem]) (by simp only [go_sem]) (by simp only [go_sem]) (by simp only [go_sem]) (by simp only [go_sem]) ?_
 rintro r b ⟨rfl, rfl⟩
 have hd_3 : Dk l (nextS l s2 3) := nextS_dk hd_2
 generalize nextS l s2 3 = s3 at hd_3 ⊢
 have hcase : nextV l s2 3 = 0 ∨ nextV l s2 3 = 1 ∨ nextV l s2 3 = 2 := by omega
 have cK := con_CheckG m hL
 rw [hC] at cK
 unfold vM cM vss at cK
 rcases hcase with hc | hc | hc
 ·simp only [go_sem, hc]
  refine LoopK.intro (fun i : Nat => ⟨88, [(3, .pb 0 0), (4, .pb 1 0), (5, .pb 2 0), (6, vi i)], [deckA l s3, cM m, cM (withS m i)]⟩)
   (fun i => 9 - i) (fun i => i ≤ 9) 0 (by omega) ?_ ?_
  ·rw [withS_zero]
   simp only [go_sem, cM, vss]
  rintro i hi
  by_cases h : i ≤ 8
  ·have hw : IntKind.i64.wrap (i + 1) = i + 1 := wrap_in (by omega) (by omega)
   have hw2 : IntKind.i64.wrap (97 + (i : Int)) = 97 + i := wrap_in (by omega) (by omega)
   have hw3 : IntKind.u8.wrap (97 + (i : Int)) = 97 + i := by rw [IntKind.wrap_u8]; omega
   have hb : bytesOf [.sc (.int .u8 (97 + (i : Int)))] = some [97 + (i : Int)] := rfl
   have e1 : (strOf [97 + (i : Int)]).size = 1 := rfl
   have hh : (i : Int) ≤ 8 := by omega
   simp only [go_sem, hh, cM, vss]
   refine DrawK.walk 10 mixed (by kernel_rfl) ?_
   simp only [go_sem, hw2, hw3, hb, e1]
   have hlen : (withS m i).states.length ≤ 40 := by unfold withS; rw [List.length_append, abL_len]; omega
   refine ⟨by simp only [roomFor]; omega, by simp only [roomFor]; omega, roundK.freeze (fun _ => true) (i + 1) (by omega) (by omega) ?_⟩
   have es := withS_succ m i
   simp only [go_sem] at es
   simp only [go_sem, hw, es]
   exact ⟨leV_refl _, leV_refl _, leV_refl _, leV_refl _, leV_refl _, leV_refl _, leV_refl _, leV_refl _, leV_refl _⟩
  ·have ei : i = 9 := by omega
   subst ei
   have hh : ¬ ((9 : Nat) : Int) ≤ 8 := by omega
   have cW := con_CheckG (withS m 9) (withS_len hL (by omega) (by omega))
   rw [withS_check hC] at cW
   unfold vM cM vss at cW
   simp only [go_sem, cM, vss]
   refine CallU.free cK (by simp only [go_sem]) (by simp only [go_sem]) ?_
   rintro r b rfl
   simp only [go_sem]
   refine CallU.free cW (by simp only [go_sem]) (by simp only [go_sem]) ?_
   rintro r b rfl
   simp only [go_sem]
 ·simp only [go_sem, hc]
  refine LoopK.intro (fun i : Nat => ⟨88, [(3, .pb 0 0), (4, .pb 1 0), (5, .pb 2 0), (7, vi i)], [deckA l s3, cM m, cM (withR m i)]⟩)
   (fun i => 13 - i) (fun i => i ≤ 13) 0 (by omega) ?_ ?_
  ·rw [withR_zero]
   simp only [go_sem, cM, vss]
  rintro i hi
  by_cases h : i ≤ 12
  ·have hw : IntKind.i64.wrap (i + 1) = i + 1 := wrap_in (by omega) (by omega)
   have hw2 : IntKind.i64.wrap (97 + (i : Int)) = 97 + i := wrap_in (by omega) (by omega)
   have hw3 : IntKind.u8.wrap (97 + (i : Int)) = 97 + i := by rw [IntKind.wrap_u8]; omega
   have hb : bytesOf [.sc (.int .u8 (97 + (i : Int)))] = some [97 + (i : Int)] := rfl
   have e1 : (strOf [97 + (i : Int)]).size = 1 := rfl
   have hh : (i : Int) ≤ 12 := by omega
   simp only [go_sem, hh, cM, vss]
   refine DrawK.walk 11 mixed (by kernel_rfl) ?_
   simp only [go_sem, hw2, hw3, hb, e1]
   have hlen : (withR m i).rules.length ≤ 40 := by unfold withR; rw [List.length_append, List.length_map, abL_len]; omega
   refine ⟨by simp only [roomFor]; omega, by simp only [roomFor]; omega, roundK.freeze (fun _ => true) (i + 1) (by omega) (by omega) ?_⟩
   have es := withR_le m i
   simp only [go_sem, nameA, ab1, xB] at es
   simp only [go_sem, hw]
   exact ⟨leV_refl _, leV_refl _, leV_refl _, leV_refl _, leV_refl _, leV_refl _, leV_refl _, es, leV_refl _, leV_refl _⟩
  ·have ei : i = 13 := by omega
   subst ei
   have hh : ¬ ((13 : Nat) : Int) ≤ 12 := by omega
   have cW := con_CheckG (withR m 13) (withR_len hL (by omega) (by omega))
   rw [withR_check hC] at cW
   unfold vM cM vss at cW
   simp only [go_sem, cM, vss]
   refine CallU.free cK (by simp only [go_sem]) (by simp only [go_sem]) ?_
   rintro r b rfl
   simp only [go_sem]
   refine CallU.free cW (by simp only [go_sem]) (by simp only [go_sem]) ?_
   rintro r b rfl
   simp only [go_sem]
 ·simp only [go_sem, hc]
  refine LoopK.intro (fun i : Nat => ⟨88, [(3, .pb 0 0), (4, .pb 1 0), (5, .pb 2 0), (8, vi i)], [deckA l s3, cM m, cM (withP m i)]⟩)
   (fun i => 7 - i) (fun i => i ≤ 7) 0 (by omega) ?_ ?_
  ·rw [withP_zero]
   simp only [go_sem, cM, vss]
  rintro i hi
  by_cases h : i ≤ 6
  ·have hw : IntKind.i64.wrap (i + 1) = i + 1 := wrap_in (by omega) (by omega)
   have hw2 : IntKind.i64.wrap (97 + (i : Int)) = 97 + i := wrap_in (by omega) (by omega)
   have hw3 : IntKind.u8.wrap (97 + (i : Int)) = 97 + i := by rw [IntKind.wrap_u8]; omega
   have hb : bytesOf [.sc (.int .u8 (97 + (i : Int)))] = some [97 + (i : Int)] := rfl
   have e1 : (strOf [97 + (i : Int)]).size = 1 := rfl
   have hh : (i : Int) ≤ 6 := by omega
   simp only [go_sem, hh, cM, vss]
   refine DrawK.walk 10 mixed (by kernel_rfl) ?_
   simp only [go_sem, hw2, hw3, hb, e1]
   have hlen : (withP m i).places.length ≤ 40 := by unfold withP; rw [List.length_append, abL_len]; omega
   refine ⟨by simp only [roomFor]; omega, by simp only [roomFor]; omega, roundK.freeze (fun _ => true) (i + 1) (by omega) (by omega) ?_⟩
   have es := withP_succ m i
   simp only [go_sem] at es
   simp only [go_sem, hw, es]
   exact ⟨leV_refl _, leV_refl _, leV_refl _, leV_refl _, leV_refl _, leV_refl _, leV_refl _, leV_refl _, leV_refl _⟩
  ·have ei : i = 7 := by omega
   subst ei
   have hh : ¬ ((7 : Nat) : Int) ≤ 6 := by omega
   have cW := con_CheckG (withP m 7) (withP_len hL (by omega) (by omega))
   rw [withP_check hC] at cW
   unfold vM cM vss at cW
   simp only [go_sem, cM, vss]
   refine CallU.free cK (by simp only [go_sem]) (by simp only [go_sem]) ?_
   rintro r b rfl
   simp only [go_sem]
   refine CallU.free cW (by simp only [go_sem]) (by simp only [go_sem]) ?_
   rintro r b rfl
   simp only [go_sem]
end Go.AM
