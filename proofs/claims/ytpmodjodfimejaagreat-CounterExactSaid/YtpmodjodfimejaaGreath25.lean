/- QE -/
import Derived.Test.YtpmodjodfimejaaGreath24
import Derived.Test.YtpmodjodfimejaaGreath22
namespace Go.AM
open Go Go.Proofs Go.RowKit
set_option maxRecDepth 100000
set_option maxHeartbeats 8000000
structure ModE (m : MD) : Prop where
 len : LenM m
 slim : m.start.Slim
 kids : m.start.kids.length <= 1000
structure ModI (m : MD) : Prop where
 mod : ModE m
 names : (namesOf m).length <= 1000
 ranks : m.ranks.length <= 1000
theorem ModE.kind {m : MD} (h : ModE m) (k : Int) : ModE { m with kind := k } := ⟨⟨h.len.names, h.len.sizes, h.len.ranks, h.len.rules, h.len.start⟩, h.slim, h.kids⟩
theorem ModE.levels {m : MD} (h : ModE m) (k : Int) : ModE { m with levels := k } := ⟨⟨h.len.names, h.len.sizes, h.len.ranks, h.len.rules, h.len.start⟩, h.slim, h.kids⟩
theorem ModE.age {m : MD} (h : ModE m) (k : Int) : ModE { m with age := k } := ⟨⟨h.len.names, h.len.sizes, h.len.ranks, h.len.rules, h.len.start⟩, h.slim, h.kids⟩
theorem ModE.ranks {m : MD} (h : ModE m) {k : List Int} (hk : k.length <= 1000000) : ModE { m with ranks := k } := ⟨⟨h.len.names, h.len.sizes, hk, h.len.rules, h.len.start⟩, h.slim, h.kids⟩
theorem ModE.start {m : MD} (h : ModE m) {v : CV} (hv : v.Slim) (hk : v.kids.length <= 1000) : ModE { m with start := v } := ⟨⟨h.len.names, h.len.sizes, h.len.ranks, h.len.rules, hv.ok⟩, hv, hk⟩
theorem ModI.states {m : MD} (h : ModI m) {x : ByteArray} (hx : x.size <= 1000) : ModE { m with states := m.states ++ [x] } := by
 have hn := h.names
 unfold namesOf at hn
 simp only [List.length_append, List.length_map] at hn
 refine ⟨⟨by unfold namesOf; simp only [List.length_append, List.length_map, List.length_singleton]; omega, fun s hs => ?_, h.mod.len.ranks, h.mod.len.rules, h.mod.len.start⟩, h.mod.slim, h.mod.kids⟩
 unfold namesOf at hs
 simp only [List.mem_append, List.mem_singleton] at hs
 have hz := h.mod.len.sizes s
 unfold namesOf at hz
 simp only [List.mem_append] at hz
 rcases hs with (((hs | rfl) | hs) | hs) | hs
 ·exact hz (.inl (.inl (.inl hs)))
 ·omega
 ·exact hz (.inl (.inl (.inr hs)))
 ·exact hz (.inl (.inr hs))
 ·exact hz (.inr hs)
theorem ModI.letters {m : MD} (h : ModI m) {x : ByteArray} (hx : x.size <= 1000) : ModE { m with letters := m.letters ++ [x] } := by
 have hn := h.names
 unfold namesOf at hn
 simp only [List.length_append, List.length_map] at hn
 refine ⟨⟨by unfold namesOf; simp only [List.length_append, List.length_map, List.length_singleton]; omega, fun s hs => ?_, h.mod.len.ranks, h.mod.len.rules, h.mod.len.start⟩, h.mod.slim, h.mod.kids⟩
 unfold namesOf at hs
 simp only [List.mem_append, List.mem_singleton] at hs
 have hz := h.mod.len.sizes s
 unfold namesOf at hz
 simp only [List.mem_append] at hz
 rcases hs with ((hs | hs) | (hs | rfl)) | hs
 ·exact hz (.inl (.inl (.inl hs)))
 ·exact hz (.inl (.inl (.inr hs)))
 ·exact hz (.inl (.inr hs))
 ·omega
 ·exact hz (.inr hs)
theorem ModE.rule {m : MD} (h : ModE m) {j : Nat} (hj : j < m.rules.length) {x : RD} (hn : x.name = m.rules[j]!.name) (hx : LenR x) : ModE { m with rules := m.rules.set j x } := by
 have hl := h.len.names
 unfold namesOf at hl
 simp only [List.length_append, List.length_map] at hl
 refine ⟨⟨by unfold namesOf; simp only [List.length_append, List.length_map, List.length_set]; omega, fun s hs => ?_, h.len.ranks, fun r hr => ?_, h.len.start⟩, h.slim, h.kids⟩
 ·refine h.len.sizes s ?_
  unfold namesOf at hs ⊢
  simp only [List.mem_append, List.mem_map] at hs ⊢
  rcases hs with hs | ⟨r, hr, rfl⟩
  ·exact .inl hs
  ·rcases List.mem_or_eq_of_mem_set hr with hr | rfl
   ·exact .inr ⟨r, hr, rfl⟩
   ·exact .inr ⟨_, mem_bangI hj, hn.symm⟩
 ·rcases List.mem_or_eq_of_mem_set hr with hr | rfl
  ·exact h.len.rules r hr
  ·exact hx
theorem h_len {m : MD} (h : ModE m) {j : Nat} (hj : j < m.rules.length) : LenR m.rules[j]! := h.len.rules _ (mem_bangI hj)
theorem DealtG.modI {k : Int} {ns np nl : Nat} {ra : List Int} {lv ag : Int} {rules : List RD} {st : CV} (h : DealtG k ns np nl ra lv ag rules st) (hk : st.kids.length <= 1000) : ModI (dealtG k ns np nl ra lv ag rules st) := by
 have h20 := h.few1000
 refine ⟨⟨h.len, h.slim, hk⟩, ?_, ?_⟩
 ·unfold namesOf
  simp only [List.length_append, List.length_map]
  omega
 ·have := h.num.ranks
  have h3 := h.num.few
  show ra.length <= 1000
  by_cases k3 : k = 3
  ·have := (this.1 k3).1; omega
  ·rw [this.2 k3]; simp
def bentL : List ByteArray := [⟨#[113, 48]⟩, ⟨#[110, 101, 101, 100]⟩, ⟨#[65]⟩, ⟨#[]⟩, ⟨#[112, 48]⟩, ⟨#[122, 122]⟩]
theorem bentL_len : bentL.length = 6 := rfl
theorem bentL_size {j : Nat} (h : j < 6) : bentL[j]!.size <= 1000 := by
 have hall : (bentL.all fun x => decide (x.size <= 1000)) = true := by kernel_rfl
 exact of_decide_eq_true (List.all_eq_true.1 hall _ (mem_bangI (by rw [bentL_len]; exact h)))
theorem modR {l : List RD} {k o : Nat} {x : AV} {r : RD} (h : k < l.length) (e : updElem o [x] (vRule l[k]!) = vRule r) : (l.map vRule).modify k (updElem o [x]) = (l.set k r).map vRule := by
 have h2 : (l.map vRule)[k]? = some (vRule l[k]!) := by rw [List.getElem?_map, List.getElem?_eq_getElem h, getElem!_pos l k h]; rfl
 rw [mod_set h2, List.map_set, e]
theorem DrawK.weaken {P : Program} {ops : Array Oper} {σ τ : St} {K : St -> Prop} (h : DrawK P ops τ K) (hl : σ.le τ) : DrawK P ops σ K :=
 fun G0 w0 G a w id Q t hs hQ => h G0 w0 G a w id Q t (hs.le hl) hQ
theorem shareD {P : Program} {ops : Array Oper} {K : St -> Prop} (p : Nat -> Bool) {T : St -> Prop} {A : Prop} (h : (∀ σ τ, T τ -> (σ.map (freezeLeaf p)).le τ -> DrawK P ops σ K) -> A) (key : ∀ τ, T τ -> DrawK P ops τ K) : A := h fun _ τ hT hl => .freeze p ((key τ hT).weaken hl)
def bentT (l : List Int) (τ : St) : Prop := ∃ (m : MD) (j : Nat) (s : DS), ModE m /\ j < m.rules.length /\ Dk l s /\ τ = ⟨166, [(0, .pb 0 0), (4, .pb 1 0), (5, .pb 2 0), (6, vi j)], [deckA l s, [vi 0, .nil, .nil, .nil, .nil, vi 0, vi 0, .nil, vi 0, .nil], [vi m.kind, .sl 0 1 (m.states.map vStr), .sl 0 1 (m.places.map vStr), .sl 0 1 (m.letters.map vStr), vs 0 m.ranks, vi m.levels, vi m.age, .sl 832 14 (m.rules.map vRule), vi m.start.n, .sl 0 2 (m.start.kids.map vV)]]⟩
theorem bentT.mk {l : List Int} {m : MD} {j : Nat} {s : DS} (h1 : ModE m) (h2 : j < m.rules.length) (h3 : Dk l s) : bentT l ⟨166, [(0, .pb 0 0), (4, .pb 1 0), (5, .pb 2 0), (6, vi j)], [deckA l s, [vi 0, .nil, .nil, .nil, .nil, vi 0, vi 0, .nil, vi 0, .nil], [vi m.kind, .sl 0 1 (m.states.map vStr), .sl 0 1 (m.places.map vStr), .sl 0 1 (m.letters.map vStr), vs 0 m.ranks, vi m.levels, vi m.age, .sl 832 14 (m.rules.map vRule), vi m.start.n, .sl 0 2 (m.start.kids.map vV)]]⟩ := ⟨m, j, s, h1, h2, h3, rfl⟩
theorem con_dBentS (l : List Int) (s : DS) (k : Int) (_hd : Dk l s) (hM : Con Tryz.prog 19 [.pb 0 0, vi k] [deckA l s] fun r b => ∃ m s', ModI m /\ Dk l s' /\ r = vM m /\ b = [deckA l s']) :
  Con Tryz.prog 20 [.pb 0 0, vi k] [deckA l s] fun r b => ∃ m s', ModE m /\ Dk l s' /\ leV (r.freeze fun _ => true) (vM m) /\ b = [deckA l s'] := by
 refine Con.intro Tryz.func20 rfl Tryz.ntmps20 Tryz.results20 (by kernel_rfl) (by simp) 1 (by simp) ?_
 apply shareD (fun t => t != 832) (T := bentT l)
 case h =>
  intro hD0
  apply shareD (fun t => t != 832) (T := bentT l)
  case h =>
   intro hD1
   apply shareD (fun t => t != 832) (T := bentT l)
   case h =>
    intro hD2
    apply shareD (fun t => t != 832) (T := bentT l)
    case h =>
     intro hD3
     apply shareD (fun t => t != 832) (T := bentT l)
     case h =>
      intro hD4
      apply shareD (fun t => t != 832) (T := bentT l)
      case h =>
       intro hD6
       apply shareD (fun t => t != 832) (T := bentT l)
       case h =>
        intro hD7
        simp only [go_sem]
        refine CallU.boxes (i := 0) (is := []) (bx0 := [deckA l s]) hM (by simp only [go_sem]) (by simp only [go_sem]) (by simp only [go_sem]) (by simp only [go_sem]) (by simp only [go_sem]) ?_
        rintro r b ⟨m, s1, hI, hd1, rfl, rfl⟩
        have hn := hI.names
        have hrk := hI.ranks
        unfold namesOf at hn
        simp only [List.length_append, List.length_map] at hn
        have r1 : roomFor m.rules.length 232 := by simp only [roomFor]; omega
        simp only [go_sem, vM, cM, vss]
        refine ⟨by simp only [roomFor]; omega, ?_⟩
        have hv := nextV_lt (l := l) (s := s1) (n := 12) (by omega)
        have hd2 : Dk l (nextS l s1 12) := nextS_dk hd1
        refine CallU.boxes (i := 0) (is := []) (bx0 := [deckA l s1]) (con_dNext l s1 12 hd1) (by simp only [go_sem]) (by simp only [go_sem]) (by simp only [go_sem]) (by simp only [go_sem]) (by simp only [go_sem]) ?_
        rintro r b ⟨rfl, rfl⟩
        generalize nextV l s1 12 = v at hv ⊢
        generalize nextS l s1 12 = s2 at hd2 ⊢
        have hc : v = 0 \/ v = 1 \/ v = 2 \/ v = 3 \/ v = 4 \/ v = 5 \/ v = 6 \/ 6 < v := by omega
        rcases hc with rfl | rfl | rfl | rfl | rfl | rfl | rfl | hc
        case' inl =>
         have hd3 : Dk l (nextS l s2 8) := nextS_dk hd2
         obtain ⟨m0, hm0, hE⟩ : ∃ m0 : MD, m0 = { m with kind := nextV l s2 8 } /\ ModE m0 := ⟨_, rfl, hI.mod.kind _⟩
         simp only [go_sem]
         refine CallU.boxes (i := 0) (is := []) (bx0 := [deckA l s2]) (con_dNext l s2 8 hd2) (by simp only [go_sem]) (by simp only [go_sem]) (by simp only [go_sem]) (by simp only [go_sem]) (by simp only [go_sem]) ?_
         rintro r b ⟨rfl, rfl⟩
         generalize nextV l s2 8 = x0 at hm0 ⊢
         generalize nextS l s2 8 = s3 at hd3 ⊢
        case' inr.inl =>
         have hd3 : Dk l (nextS l s2 bentL.length) := nextS_dk hd2
         have hvb := nextV_lt (l := l) (s := s2) (n := bentL.length) (by rw [bentL_len]; omega)
         simp only [go_sem, List.length_map]
         refine ⟨by simp only [roomFor]; omega, ?_⟩
         refine CallU.hide [1792] [.pb 0 0, vss bentL] (i := 0) (is := []) (bx0 := [deckA l s2]) (con_dPick l s2 bentL hd2 (by rw [bentL_len]; omega) (by rw [bentL_len]; omega)) (by simp only [go_sem]) ?_ (by simp only [go_sem]) (by simp only [go_sem]) (by simp only [go_sem, vss, bentL, List.map_cons, List.map_nil]) (by simp only [go_sem]) (by simp only [go_sem]) ?_
         ·simp only [go_sem, vss, bentL, List.map_cons, List.map_nil]
         rintro r b ⟨rfl, rfl⟩
         generalize nextS l s2 bentL.length = s3 at hd3 ⊢
         generalize nextV l s2 bentL.length = vb' at hvb ⊢
         rw [bentL_len] at hvb
         obtain ⟨x, ex, hx⟩ : ∃ x, x = bentL[vb'.toNat]! /\ x.size <= 1000 := ⟨_, rfl, bentL_size (by omega)⟩
         rw [<- ex]
         clear ex hvb
         have es : List.map vStr m.states ++ [AV.sc (Value.string x)] = List.map vStr (m.states ++ [x]) := by rw [List.map_append]; rfl
         obtain ⟨m0, hm0, hE⟩ : ∃ m0 : MD, m0 = { m with states := m.states ++ [x] } /\ ModE m0 := ⟨_, rfl, hI.states hx⟩
         have hroom : roomFor (m.states.length + 1) 16 := by simp only [roomFor]; omega
         simp only [go_sem, List.length_map, es, hroom]
        case' inr.inr.inl =>
         have hd3 := hd2
         obtain ⟨s3, hs3⟩ : ∃ s3, s3 = s2 := ⟨_, rfl⟩
         rw [<- hs3] at hd3 ⊢
         obtain ⟨x, ex, hx⟩ : ∃ x : ByteArray, x = ⟨#[120]⟩ /\ x.size <= 1000 := ⟨_, rfl, by decide⟩
         have es : List.map vStr m.letters ++ [AV.sc (Value.string ⟨#[120]⟩)] = List.map vStr (m.letters ++ [x]) := by rw [List.map_append, ex]; rfl
         obtain ⟨m0, hm0, hE⟩ : ∃ m0 : MD, m0 = { m with letters := m.letters ++ [x] } /\ ModE m0 := ⟨_, rfl, hI.letters hx⟩
         have hroom : roomFor (m.letters.length + 1) 16 := by simp only [roomFor]; omega
         have hroom0 : roomFor m.letters.length 16 := by simp only [roomFor]; omega
         simp only [go_sem, List.length_map, es, hroom, hroom0]
        case' inr.inr.inr.inl =>
         have hd3 := hd2
         obtain ⟨s3, hs3⟩ : ∃ s3, s3 = s2 := ⟨_, rfl⟩
         rw [<- hs3] at hd3 ⊢
         obtain ⟨m0, hm0, hE⟩ : ∃ m0 : MD, m0 = { m with levels := IntKind.i64.wrap (m.levels + 1) } /\ ModE m0 := ⟨_, rfl, hI.mod.levels _⟩
         simp only [go_sem]
        case' inr.inr.inr.inr.inl =>
         have hd3 : Dk l (nextS l s2 5) := nextS_dk hd2
         obtain ⟨m0, hm0, hE⟩ : ∃ m0 : MD, m0 = { m with age := nextV l s2 5 } /\ ModE m0 := ⟨_, rfl, hI.mod.age _⟩
         simp only [go_sem]
         refine CallU.boxes (i := 0) (is := []) (bx0 := [deckA l s2]) (con_dNext l s2 5 hd2) (by simp only [go_sem]) (by simp only [go_sem]) (by simp only [go_sem]) (by simp only [go_sem]) (by simp only [go_sem]) ?_
         rintro r b ⟨rfl, rfl⟩
         generalize nextV l s2 5 = x0 at hm0 ⊢
         generalize nextS l s2 5 = s3 at hd3 ⊢
        case' inr.inr.inr.inr.inr.inl =>
         have hd3 := hd2
         obtain ⟨s3, hs3⟩ : ∃ s3, s3 = s2 := ⟨_, rfl⟩
         rw [<- hs3] at hd3 ⊢
         have es : List.map vi m.ranks ++ [AV.sc (Value.int IntKind.i64 9)] = List.map vi (m.ranks ++ [9]) := by rw [List.map_append]; rfl
         obtain ⟨m0, hm0, hE⟩ : ∃ m0 : MD, m0 = { m with ranks := m.ranks ++ [9] } /\ ModE m0 := ⟨_, rfl, hI.mod.ranks (by rw [List.length_append, List.length_singleton]; omega)⟩
         have hroom : roomFor (m.ranks.length + 1) 8 := by simp only [roomFor]; omega
         have hroom0 : roomFor m.ranks.length 8 := by simp only [roomFor]; omega
         simp only [go_sem, List.length_map, es, hroom, hroom0]
        case' inr.inr.inr.inr.inr.inr.inl =>
         simp only [go_sem]
         have hT := con_dTypeF l s2 hd2
         unfold TypeCon at hT
         refine CallU.boxes (i := 0) (is := []) (bx0 := [deckA l s2]) hT (by simp only [go_sem]) (by simp only [go_sem]) (by simp only [go_sem]) (by simp only [go_sem]) (by simp only [go_sem]) ?_
         rintro r b ⟨t, sT, ht, hdT, rfl, rfl⟩
         have hV := con_dValueG l sT t hdT ht.2 (ht.1 6)
         have hd3 := valF_dk (l := l) (s := sT) (t := t) hdT
         have hVs := valF_slim (l := l) (s := sT) (t := t) ht.2
         have hVk := valF_kids (l := l) (s := sT) (t := t) (ht.1 6)
         generalize valF l sT t = q at hV hd3 hVs hVk
         obtain ⟨c, s3⟩ := q
         simp only at hV hd3 hVs hVk
         obtain ⟨m0, hm0, hE⟩ : ∃ m0 : MD, m0 = { m with start := c } /\ ModE m0 := ⟨_, rfl, hI.mod.start hVs hVk⟩
         rw [vT_eq] at hV ⊢
         simp only [go_sem]
         refine CallU.boxes (i := 0) (is := []) (bx0 := [deckA l sT]) hV (by simp only [go_sem]) (by simp only [go_sem]) (by simp only [go_sem]) (by simp only [go_sem]) (by simp only [go_sem]) ?_
         rintro r b ⟨rfl, rfl⟩
        case' inr.inr.inr.inr.inr.inr.inr =>
         have hd3 := hd2
         obtain ⟨s3, hs3⟩ : ∃ s3, s3 = s2 := ⟨_, rfl⟩
         rw [<- hs3] at hd3 ⊢
         obtain ⟨m0, hm0, hE⟩ : ∃ m0 : MD, m0 = { m with kind := m.kind } /\ ModE m0 := ⟨_, rfl, hI.mod.kind _⟩
         have c0 : (v == 0) = false := beq_eq_false_iff_ne.2 (by omega)
         have c1 : (v == 1) = false := beq_eq_false_iff_ne.2 (by omega)
         have c2 : (v == 2) = false := beq_eq_false_iff_ne.2 (by omega)
         have c3 : (v == 3) = false := beq_eq_false_iff_ne.2 (by omega)
         have c4 : (v == 4) = false := beq_eq_false_iff_ne.2 (by omega)
         have c5 : (v == 5) = false := beq_eq_false_iff_ne.2 (by omega)
         have c6 : (v == 6) = false := beq_eq_false_iff_ne.2 (by omega)
         simp only [go_sem, c0, c1, c2, c3, c4, c5, c6]
        all_goals
         have hrl : m0.rules = m.rules := by rw [hm0]
         by_cases hr : 0 < m.rules.length
         case neg =>
          simp only [go_sem, hr, List.length_map]
          exact ⟨_, _, hE, hd3, by subst hm0; exact leV_refl _, rfl⟩
         simp only [go_sem, hr, List.length_map]
         have hd4 : Dk l (nextS l s3 2) := nextS_dk hd3
         refine CallU.boxes (i := 0) (is := []) (bx0 := [deckA l s3]) (con_dOne l s3 2 hd3) (by simp only [go_sem]) (by simp only [go_sem]) (by simp only [go_sem]) (by simp only [go_sem]) (by simp only [go_sem]) ?_
         rintro r b ⟨rfl, rfl⟩
         generalize nextS l s3 2 = s4 at hd4 ⊢
         cases oneV l s3 2
         ·simp only [go_sem]
          exact ⟨_, _, hE, hd4, by subst hm0; exact leV_refl _, rfl⟩
         simp only [go_sem, List.length_map]
         have hnj := nextV_lt (l := l) (s := s4) (n := m.rules.length) (by omega)
         have hd5 : Dk l (nextS l s4 m.rules.length) := nextS_dk hd4
         refine CallU.boxes (i := 0) (is := []) (bx0 := [deckA l s4]) (con_dNext l s4 m.rules.length hd4) (by simp only [go_sem]) (by simp only [go_sem]) (by simp only [go_sem]) (by simp only [go_sem]) (by simp only [go_sem]) ?_
         rintro r b ⟨rfl, rfl⟩
         obtain ⟨j, ej⟩ : ∃ j : Nat, nextV l s4 m.rules.length = j := ⟨(nextV l s4 m.rules.length).toNat, by omega⟩
         have hj : j < m.rules.length := by omega
         have hj0 : j < m0.rules.length := by rw [hrl]; exact hj
         generalize nextS l s4 m.rules.length = s5 at hd5 ⊢
         simp only [go_sem, ej]
         have hd6 : Dk l (nextS l s5 9) := nextS_dk hd5
         have hu := nextV_lt (l := l) (s := s5) (n := 9) (by omega)
         refine CallU.boxes (i := 0) (is := []) (bx0 := [deckA l s5]) (con_dNext l s5 9 hd5) (by simp only [go_sem]) (by simp only [go_sem]) (by simp only [go_sem]) (by simp only [go_sem]) (by simp only [go_sem]) ?_
         rintro r b ⟨rfl, rfl⟩
         generalize nextV l s5 9 = u at hu ⊢
         generalize nextS l s5 9 = s6 at hd6 ⊢
         have hLr := h_len hI.mod hj
         rcases (show u = 0 \/ u = 1 \/ u = 2 \/ u = 3 \/ u = 4 \/ u = 5 \/ u = 6 \/ u = 7 \/ 7 < u by omega) with rfl | rfl | rfl | rfl | rfl | rfl | rfl | rfl | hu8
         ·simp only [go_sem]
          exact hD0 _ _ (bentT.mk hE hj0 hd6) (by rw [hm0]; simp only [go_sem])
         ·simp only [go_sem]
          exact hD1 _ _ (bentT.mk hE hj0 hd6) (by rw [hm0]; simp only [go_sem])
         ·simp only [go_sem]
          exact hD2 _ _ (bentT.mk hE hj0 hd6) (by rw [hm0]; simp only [go_sem])
         ·simp only [go_sem]
          exact hD3 _ _ (bentT.mk hE hj0 hd6) (by rw [hm0]; simp only [go_sem])
         ·simp only [go_sem]
          exact hD4 _ _ (bentT.mk hE hj0 hd6) (by rw [hm0]; simp only [go_sem])
         ·have es := modR (o := 12) (x := vs 0 [1, 0]) (r := { m.rules[j]! with makes := [1, 0] }) hj rfl
          simp only [go_sem, List.map_cons, List.map_nil] at es
          simp only [go_sem, hj, List.length_map, es]
          refine ⟨{ m0 with rules := m0.rules.set j { m.rules[j]! with makes := [1, 0] } }, _, hE.rule hj0 (by rw [hrl]) ⟨⟨hLr.len.need, hLr.len.give, hLr.len.move, hLr.len.path, hLr.len.next, hLr.len.takes, by simp⟩, hLr.path, hLr.next⟩, hd6, by subst hm0; exact leV_refl _, rfl⟩
         ·simp only [go_sem]
          exact hD6 _ _ (bentT.mk hE hj0 hd6) (by rw [hm0]; simp only [go_sem])
         ·simp only [go_sem]
          exact hD7 _ _ (bentT.mk hE hj0 hd6) (by rw [hm0]; simp only [go_sem])
         ·have d0 : (u == 0) = false := beq_eq_false_iff_ne.2 (by omega)
          have d1 : (u == 1) = false := beq_eq_false_iff_ne.2 (by omega)
          have d2 : (u == 2) = false := beq_eq_false_iff_ne.2 (by omega)
          have d3 : (u == 3) = false := beq_eq_false_iff_ne.2 (by omega)
          have d4 : (u == 4) = false := beq_eq_false_iff_ne.2 (by omega)
          have d5 : (u == 5) = false := beq_eq_false_iff_ne.2 (by omega)
          have d6 : (u == 6) = false := beq_eq_false_iff_ne.2 (by omega)
          have d7 : (u == 7) = false := beq_eq_false_iff_ne.2 (by omega)
          simp only [go_sem, d0, d1, d2, d3, d4, d5, d6, d7]
          exact ⟨_, _, hE, hd6, by subst hm0; exact leV_refl _, rfl⟩
       case key =>
        rintro τ ⟨m, j, s6, hE, hj, hd6, rfl⟩
        have hLr := h_len hE hj
        refine DrawK.effs0 0 [4, 6] [] 11 (.one 11 .done) none (deckA l s6) mixed (by kernel_rfl) (by kernel_rfl) (by simp only [go_sem]) (by simp only [go_sem]) ?_
        simp only [go_sem]
        refine EffK.mk (con_dNext l s6 3 hd6) (by simp only [go_sem]) (by simp only [go_sem]) (by simp only [go_sem]) (by simp only [go_sem]) ?_
        simp only [go_sem]
        refine EffK.mk (con_dNext l (nextS l s6 3) 3 (nextS_dk hd6)) (by simp only [go_sem]) (by simp only [go_sem]) (by simp only [go_sem]) (by simp only [go_sem]) ?_
        have es := modR (o := 11) (x := .sl 0 3 [.ag [vi 0, vi (nextV l s6 3), vi (nextV l (nextS l s6 3) 3)]]) (r := { m.rules[j]! with takes := [(0, nextV l s6 3, nextV l (nextS l s6 3) 3)] }) hj rfl
        simp only [go_sem] at es
        simp only [go_sem, hj, List.length_map, es]
        refine ⟨⟨{ m with rules := m.rules.set j { m.rules[j]! with takes := [(0, nextV l s6 3, nextV l (nextS l s6 3) 3)] } }, _, hE.rule hj rfl ⟨⟨hLr.len.need, hLr.len.give, hLr.len.move, hLr.len.path, hLr.len.next, by simp, hLr.len.makes⟩, hLr.path, hLr.next⟩, nextS_dk (nextS_dk hd6), leV_refl _, rfl⟩, trivial⟩
      case key =>
       rintro τ ⟨m, j, s6, hE, hj, hd6, rfl⟩
       have hLr := h_len hE hj
       refine DrawK.effs0 0 [4] [] 8 (.one 8 .done) none (deckA l s6) mixed (by kernel_rfl) (by kernel_rfl) (by simp only [go_sem]) (by simp only [go_sem]) ?_
       simp only [go_sem]
       have hn7 := nextV_lt (l := l) (s := s6) (n := 4) (by omega)
       have hw7 : IntKind.i64.wrap (nextV l s6 4 - 2) = nextV l s6 4 - 2 := wrap_in (by omega) (by omega)
       refine EffK.mk (con_dNext l s6 4 hd6) (by simp only [go_sem]) (by simp only [go_sem]) (by simp only [go_sem]) (by simp only [go_sem]) ?_
       have es := modR (o := 13) (x := vi (nextV l s6 4 - 2)) (r := { m.rules[j]! with second := nextV l s6 4 - 2 }) hj rfl
       simp only [go_sem] at es
       simp only [go_sem, hw7, hj, List.length_map, es]
       refine ⟨⟨{ m with rules := m.rules.set j { m.rules[j]! with second := nextV l s6 4 - 2 } }, _, hE.rule hj rfl ⟨⟨hLr.len.need, hLr.len.give, hLr.len.move, hLr.len.path, hLr.len.next, hLr.len.takes, hLr.len.makes⟩, hLr.path, hLr.next⟩, nextS_dk hd6, leV_refl _, rfl⟩, trivial⟩
     case key =>
      rintro τ ⟨m, j, s6, hE, hj, hd6, rfl⟩
      have hLr := h_len hE hj
      refine DrawK.effs0 0 [5] [0, 2] 6 (.one 6 (.front 7 (.front 8 (.one 9 .done)))) (some (1, .alt (.one 1 (.one 6 (.front 7 (.front 8 (.one 9 .done))))) (.one 6 (.one 1 (.front 7 (.front 8 (.one 9 .done))))))) (deckA l s6) mixed (by kernel_rfl) (by kernel_rfl) (by simp only [go_sem]) (by simp only [go_sem]) ?_
      simp only [go_sem]
      have hn7 := nextV_lt (l := l) (s := s6) (n := 4) (by omega)
      obtain ⟨q, eq⟩ : ∃ q : Nat, nextV l s6 4 = q := ⟨(nextV l s6 4).toNat, by omega⟩
      refine EffK.mk (con_dNext l s6 4 hd6) (by simp only [go_sem]) (by simp only [go_sem]) (by simp only [go_sem]) (by simp only [go_sem]) ?_
      have es := modR (o := 9) (x := vs 0 (List.take q [0, 0, 0])) (r := { m.rules[j]! with path := List.take q [0, 0, 0] }) hj rfl
      have et : List.take q [AV.sc (Value.int IntKind.i64 0), AV.sc (Value.int IntKind.i64 0), AV.sc (Value.int IntKind.i64 0)] = List.map vi (List.take q [0, 0, 0]) := by rw [List.map_take]; rfl
      have hqs : (List.take q [(0 : Int), 0, 0]).length <= 3 := by rw [List.length_take]; exact Nat.min_le_right _ _
      generalize List.take q [(0 : Int), 0, 0] = pq at es et hqs
      simp only [go_sem] at es
      have hq3 : q <= 3 := by omega
      repeat' (first | with_reducible apply andK_mk | simp only [go_sem, hj, eq, List.length_map, et, es, hq3] | exact ⟨{ m with rules := m.rules.set j { m.rules[j]! with path := pq } }, _, hE.rule hj rfl ⟨⟨hLr.len.need, hLr.len.give, hLr.len.move, by show pq.length <= _; omega, hLr.len.next, hLr.len.takes, hLr.len.makes⟩, by show pq.length <= _; omega, hLr.next⟩, nextS_dk hd6, leV_refl _, rfl⟩)
    case key =>
     rintro τ ⟨m, j, s6, hE, hj, hd6, rfl⟩
     have hLr := h_len hE hj
     refine DrawK.effs0 0 [4] [] 8 (.one 8 .done) none (deckA l s6) mixed (by kernel_rfl) (by kernel_rfl) (by simp only [go_sem]) (by simp only [go_sem]) ?_
     simp only [go_sem]
     have hn7 := nextV_lt (l := l) (s := s6) (n := 5) (by omega)
     have hw7 : IntKind.i64.wrap (nextV l s6 5 - 1) = nextV l s6 5 - 1 := wrap_in (by omega) (by omega)
     refine EffK.mk (con_dNext l s6 5 hd6) (by simp only [go_sem]) (by simp only [go_sem]) (by simp only [go_sem]) (by simp only [go_sem]) ?_
     have es := modR (o := 7) (x := vi (nextV l s6 5 - 1)) (r := { m.rules[j]! with act := nextV l s6 5 - 1 }) hj rfl
     simp only [go_sem] at es
     simp only [go_sem, hw7, hj, List.length_map, es]
     refine ⟨⟨{ m with rules := m.rules.set j { m.rules[j]! with act := nextV l s6 5 - 1 } }, _, hE.rule hj rfl ⟨⟨hLr.len.need, hLr.len.give, hLr.len.move, hLr.len.path, hLr.len.next, hLr.len.takes, hLr.len.makes⟩, hLr.path, hLr.next⟩, nextS_dk hd6, leV_refl _, rfl⟩, trivial⟩
   case key =>
    rintro τ ⟨m, j, s6, hE, hj, hd6, rfl⟩
    have hLr := h_len hE hj
    refine DrawK.effs0 0 [4] [] 9 (.one 9 .done) none (deckA l s6) mixed (by kernel_rfl) (by kernel_rfl) (by simp only [go_sem]) (by simp only [go_sem]) ?_
    simp only [go_sem]
    have hn7 := nextV_lt (l := l) (s := s6) (n := 3) (by omega)
    have hw7 : IntKind.i64.wrap (nextV l s6 3 - 2) = nextV l s6 3 - 2 := wrap_in (by omega) (by omega)
    refine EffK.mk (con_dNext l s6 3 hd6) (by simp only [go_sem]) (by simp only [go_sem]) (by simp only [go_sem]) (by simp only [go_sem]) ?_
    have es := modR (o := 5) (x := vs 0 [nextV l s6 3 - 2]) (r := { m.rules[j]! with move := [nextV l s6 3 - 2] }) hj rfl
    simp only [go_sem] at es
    simp only [go_sem, hw7, hj, List.length_map, es]
    refine ⟨⟨{ m with rules := m.rules.set j { m.rules[j]! with move := [nextV l s6 3 - 2] } }, _, hE.rule hj rfl ⟨⟨hLr.len.need, hLr.len.give, by simp, hLr.len.path, hLr.len.next, hLr.len.takes, hLr.len.makes⟩, hLr.path, hLr.next⟩, nextS_dk hd6, leV_refl _, rfl⟩, trivial⟩
  case key =>
   rintro τ ⟨m, j, s6, hE, hj, hd6, rfl⟩
   have hLr := h_len hE hj
   refine DrawK.effs0 0 [5, 6] [] 9 (.one 9 .done) none (deckA l s6) mixed (by kernel_rfl) (by kernel_rfl) (by simp only [go_sem]) (by simp only [go_sem]) ?_
   simp only [go_sem]
   have hn7 := nextV_lt (l := l) (s := s6) (n := 4) (by omega)
   obtain ⟨q, eq⟩ : ∃ q : Nat, nextV l s6 4 = q := ⟨(nextV l s6 4).toNat, by omega⟩
   refine EffK.mk (con_dNext l s6 4 hd6) (by simp only [go_sem]) (by simp only [go_sem]) (by simp only [go_sem]) (by simp only [go_sem]) ?_
   simp only [go_sem, eq]
   refine EffK.mk (con_dSmallF l (nextS l s6 4) q 17 (nextS_dk hd6) (by omega) (by omega)) (by simp only [go_sem]) (by simp only [go_sem]) (by simp only [go_sem]) (by simp only [go_sem]) ?_
   have hqs := smV_len (l := l) (s := nextS l s6 4) (most := 17) q
   have es := modR (o := 3) (x := vs 0 (smV l (nextS l s6 4) 17 q)) (r := { m.rules[j]! with need := smV l (nextS l s6 4) 17 q }) hj rfl
   simp only [go_sem] at es
   simp only [go_sem, hj, List.length_map, es]
   refine ⟨⟨{ m with rules := m.rules.set j { m.rules[j]! with need := smV l (nextS l s6 4) 17 q } }, _, hE.rule hj rfl ⟨⟨by show (smV l (nextS l s6 4) 17 q).length <= _; omega, hLr.len.give, hLr.len.move, hLr.len.path, hLr.len.next, hLr.len.takes, hLr.len.makes⟩, hLr.path, hLr.next⟩, smS_dk (nextS_dk hd6) q, leV_refl _, rfl⟩, trivial⟩
 case key =>
  rintro τ ⟨m, j, s6, hE, hj, hd6, rfl⟩
  have hLr := h_len hE hj
  refine DrawK.effs0 0 [4] [] 8 (.one 8 .done) none (deckA l s6) mixed (by kernel_rfl) (by kernel_rfl) (by simp only [go_sem]) (by simp only [go_sem]) ?_
  simp only [go_sem]
  have hn7 := nextV_lt (l := l) (s := s6) (n := 5) (by omega)
  have hw7 : IntKind.i64.wrap (nextV l s6 5 - 1) = nextV l s6 5 - 1 := wrap_in (by omega) (by omega)
  refine EffK.mk (con_dNext l s6 5 hd6) (by simp only [go_sem]) (by simp only [go_sem]) (by simp only [go_sem]) (by simp only [go_sem]) ?_
  have es := modR (o := 1) (x := vi (nextV l s6 5 - 1)) (r := { m.rules[j]! with src := nextV l s6 5 - 1 }) hj rfl
  simp only [go_sem] at es
  simp only [go_sem, hw7, hj, List.length_map, es]
  refine ⟨⟨{ m with rules := m.rules.set j { m.rules[j]! with src := nextV l s6 5 - 1 } }, _, hE.rule hj rfl ⟨⟨hLr.len.need, hLr.len.give, hLr.len.move, hLr.len.path, hLr.len.next, hLr.len.takes, hLr.len.makes⟩, hLr.path, hLr.next⟩, nextS_dk hd6, leV_refl _, rfl⟩, trivial⟩
end Go.AM
