/- HW HX LConf HY QA GY KI KM KS HL HZ0 -/
import Derived.Test.YtpmodjodfimejaaGreatg20
import Derived.Test.YtpmodjodfimejaaGreatg19
import Derived.Test.YtpmodjodfimejaaGreatg7
import Derived.Test.YtpmodjodfimejaaGreatg18
namespace Go.AM
open Go Go.Proofs Go.RowKit
set_option maxRecDepth 100000
set_option maxHeartbeats 8000000
def wordC (l : List Int) : CV := .mk 0 (l.map fun n => .mk n [])
def dealN (f : DS -> Nat -> CV × DS) (s : DS) : Nat -> List CV × DS
 | 0 => ([], s)
 | i + 1 => ((dealN f s i).1 ++ [(f (dealN f s i).2 i).1], (f (dealN f s i).2 i).2)
theorem dealN_len {f : DS -> Nat -> CV × DS} {s : DS} : ∀ n, (dealN f s n).1.length = n
 | 0 => rfl
 | n + 1 => by rw [dealN, List.length_append, dealN_len n]; rfl
def looseP (l : List Int) : Nat -> DS -> TD -> Int -> CV × DS
 | 0, s, _, _ => (.mk 0 [], s)
 | d + 1, s, t, most =>
  if t.kind = 1 then (.mk (nextV l s 4) [], nextS l s 4)
  else if t.kind = 2 then (.mk (nextV l s t.size) [], nextS l s t.size)
  else if t.kind = 7 then (wordC (wdV l s t.size most), wdS l s t.size most)
  else if t.kind = 3 then (.mk 0 (dealN (fun s j => looseP l d s t.parts[j]! most) s t.parts.length).1, (dealN (fun s j => looseP l d s t.parts[j]! most) s t.parts.length).2)
  else if t.kind = 6 then treeP l 4 (nextS l s 4) t.size (1 + nextV l s 4)
  else (.mk 0 (dealN (fun s _ => looseP l d s t.parts[0]! (max 0 (most - 1))) (nextS l s (most + 1)) (nextV l s (most + 1)).toNat).1, (dealN (fun s _ => looseP l d s t.parts[0]! (max 0 (most - 1))) (nextS l s (most + 1)) (nextV l s (most + 1)).toNat).2)
theorem dealN_dk {l : List Int} {f : DS -> Nat -> CV × DS} (hf : ∀ s j, Dk l s -> Dk l (f s j).2) {s : DS} (h : Dk l s) : ∀ n, Dk l (dealN f s n).2
 | 0 => h
 | n + 1 => hf _ _ (dealN_dk hf h n)
theorem looseP_dk {l : List Int} : ∀ (d : Nat) (s : DS) (t : TD) (most : Int), Dk l s -> Dk l (looseP l d s t most).2
 | 0, s, _, _, h => h
 | d + 1, s, t, most, h => by
  unfold looseP
  split
  ·exact nextS_dk h
  ·split
   ·exact nextS_dk h
   ·split
    ·exact wdS_dk h
    ·split
     ·exact dealN_dk (fun s j h => looseP_dk d s _ _ h) h _
     ·split
      ·exact treeP_dk _ _ _ _ (nextS_dk h)
      ·exact dealN_dk (fun s j h => looseP_dk d s _ _ h) (nextS_dk h) _
theorem word_slim {l : List Int} (h : l.length <= 100000) : (wordC l).Slim := .mk _ _ (by rw [List.length_map]; omega) fun x hx => by
 obtain ⟨n, _, rfl⟩ := List.mem_map.1 hx
 exact .leaf _
theorem dealN_slim {f : DS -> Nat -> CV × DS} (hf : ∀ s j, (f s j).1.Slim) {s : DS} : ∀ n, ∀ x ∈ (dealN f s n).1, x.Slim
 | 0 => fun x hx => by cases hx
 | n + 1 => fun x hx => by
  rcases List.mem_append.1 hx with hx | hx
  ·exact dealN_slim hf n x hx
  ·rw [List.mem_singleton] at hx
   subst hx
   exact hf _ _
theorem looseP_slim {l : List Int} : ∀ (d : Nat) (s : DS) (t : TD) (most : Int), t.Ok -> 0 <= most /\ most <= 100 -> (looseP l d s t most).1.Slim
 | 0, s, _, _, _, _ => .leaf 0
 | d + 1, s, t, most, ht, hm => by
  unfold looseP
  split
  ·exact .leaf _
  ·split
   ·exact .leaf _
   ·split
    ·refine word_slim ?_
     have := (wdN_le (l := l) (s := s) hm.1).2
     unfold wdV
     rw [smV_len]; omega
    ·have hpl := ht.plen
     split
     ·refine .mk _ _ (by rw [dealN_len]; exact hpl) ?_
      by_cases h0 : 0 < t.parts.length
      ·have key : ∀ n, n <= t.parts.length -> ∀ x ∈ (dealN (fun s j => looseP l d s t.parts[j]! most) s n).1, x.Slim := by
        intro n
        induction n with
        | zero => intro _ x hx; cases hx
        | succ n ih =>
         intro hn x hx
         rcases List.mem_append.1 hx with hx | hx
         ·exact ih (by omega) x hx
         ·rw [List.mem_singleton] at hx
          subst hx
          exact looseP_slim d _ _ _ (ht.part (mem_bangI (by omega))) hm
       exact key _ (Nat.le_refl _)
      ·rw [show t.parts.length = 0 by omega]
       intro x hx; cases hx
     ·split
      ·have := nextV_lt (l := l) (s := s) (n := 4) (by omega)
       exact treeP_slim _ _ _ _ (by omega)
      ·have hn := nextV_lt (l := l) (s := s) (n := most + 1) (by omega)
       refine .mk _ _ (by rw [dealN_len]; omega) ?_
       by_cases h0 : 0 < t.parts.length
       ·exact dealN_slim (fun s j => looseP_slim d s _ _ (ht.part (mem_bangI h0)) (by omega)) _
       ·have e : t.parts[0]! = default := by rw [getElem!_neg _ 0 h0]
        rw [e]
        exact dealN_slim (fun s j => looseP_slim d s _ _ (show (TD.mk 0 0 [] []).Ok from .leaf (by simp)) (by omega)) _
theorem leaf_le (t : Nat) (n : Int) : leV (.ag [vi n, .nil]) (ownV t (.mk n [])) := leV_ag ⟨leV_refl _, leV_nil _ _, trivial⟩
theorem con_dlooseG (l : List Int) : ∀ (d : Nat) (s : DS) (t : TD) (most : Int), Dk l s -> rightT d t = true -> t.Ok -> 0 <= most /\ most <= 100 ->
  Con Tryz.prog 111 [.pb 0 0, vT t, vi most] [deckA l s] fun r b => r = ownV 2 (looseP l d s t most).1 /\ b = [deckA l (looseP l d s t most).2] := by
 intro d
 induction d with
 | zero => intro s t most _ hr; simp [rightT] at hr
 | succ d ih =>
  intro s t most hd hr ht hm
  have hf := right_fit (d + 1) t hr
  have hkind := right_kind hr
  have hpl := ht.plen
  have hrec : ∀ p ∈ t.parts, ∀ (s : DS) (most : Int), Dk l s -> 0 <= most /\ most <= 100 -> Con Tryz.prog 111 [.pb 0 0, vT p, vi most] [deckA l s] fun r b => r = ownV 0 (looseP l d s p most).1 /\ b = [deckA l (looseP l d s p most).2] := fun p hp s most h1 h2 =>
   ((ih s p most h1 (right_parts hr p hp) (ht.part hp) h2).freezeB fun _ => true).mono fun r b ⟨r1, b1, ⟨h1, h2⟩, h3, h4⟩ => by
    subst h1; subst h2; subst h3; subst h4
    exact ⟨rfl, rfl⟩
  have e1 := vT_eq t
  have key : Con Tryz.prog 111 [.pb 0 0, vT t, vi most] [deckA l s] fun r b => leV r (ownV 2 (looseP l (d + 1) s t most).1) /\ b = [deckA l (looseP l (d + 1) s t most).2] := by
   rw [e1]
   refine Con.intro Tryz.func111 rfl Tryz.ntmps111 Tryz.results111 (by kernel_rfl) (by simp) 1 (by simp) ?_
   by_cases k1 : t.kind = 1
   ·have b1 : (t.kind == 1) = true := beq_iff_eq.2 k1
    have e : looseP l (d + 1) s t most = (.mk (nextV l s 4) [], nextS l s 4) := by unfold looseP; rw [if_pos k1]
    rw [e]
    simp only [go_sem, b1]
    refine CallU.boxes (i := 0) (is := []) (bx0 := [deckA l s]) (con_dNext l s 4 hd) (by simp only [go_sem]) (by simp only [go_sem]) (by simp only [go_sem]) (by simp only [go_sem]) (by simp only [go_sem]) ?_
    rintro r b ⟨rfl, rfl⟩
    simp only [go_sem]
    exact leaf_le 2 _
   have b1 : (t.kind == 1) = false := beq_eq_false_iff_ne.2 k1
   by_cases k2 : t.kind = 2
   ·have b2 : (t.kind == 2) = true := beq_iff_eq.2 k2
    have e : looseP l (d + 1) s t most = (.mk (nextV l s t.size) [], nextS l s t.size) := by unfold looseP; rw [if_neg k1, if_pos k2]
    rw [e]
    simp only [go_sem, b1, b2]
    refine CallU.boxes (i := 0) (is := []) (bx0 := [deckA l s]) (con_dNext l s t.size hd) (by simp only [go_sem]) (by simp only [go_sem]) (by simp only [go_sem]) (by simp only [go_sem]) (by simp only [go_sem]) ?_
    rintro r b ⟨rfl, rfl⟩
    simp only [go_sem]
    exact leaf_le 2 _
   have b2 : (t.kind == 2) = false := beq_eq_false_iff_ne.2 k2
   by_cases k6 : t.kind = 6
   ·have b6 : (t.kind == 6) = true := beq_iff_eq.2 k6
    have hn := nextV_lt (l := l) (s := s) (n := 4) (by omega)
    have e : looseP l (d + 1) s t most = treeP l 4 (nextS l s 4) t.size (1 + nextV l s 4) := by
     unfold looseP
     rw [if_neg k1, if_neg k2, if_neg (by omega), if_neg (by omega), if_pos k6]
    rw [e]
    have hw : IntKind.i64.wrap (1 + nextV l s 4) = 1 + nextV l s 4 := wrap_in (by omega) (by omega)
    have htr : Con Tryz.prog 160 [.pb 0 0, vi t.size, vi (1 + nextV l s 4)] [deckA l (nextS l s 4)] fun r b => r = ownV 0 (treeP l 4 (nextS l s 4) t.size (1 + nextV l s 4)).1 /\ b = [deckA l (treeP l 4 (nextS l s 4) t.size (1 + nextV l s 4)).2] :=
     ((con_dTree l 4 (nextS l s 4) t.size (1 + nextV l s 4) (by omega) (by omega) (nextS_dk hd) (by omega)).freezeB fun _ => true).mono fun r b ⟨r1, b1, ⟨h1, h2⟩, h3, h4⟩ => by
      subst h1; subst h2; subst h3; subst h4
      exact ⟨rfl, rfl⟩
    have hsl := treeP_slim (l := l) 4 (nextS l s 4) t.size (1 + nextV l s 4) (by omega)
    generalize treeP l 4 (nextS l s 4) t.size (1 + nextV l s 4) = q at htr hsl ⊢
    have hva := con_mvalue q.1 hsl
    rw [vV_eq] at hva
    simp only [go_sem, b1, b2, b6]
    refine DrawK.effs0 0 [4, 6] [] 8 (.one 8 .done) none (deckA l s) mixed (by kernel_rfl) (by kernel_rfl) (by simp only [go_sem]) (by simp only [go_sem]) ?_
    simp only [go_sem]
    refine EffK.mk (con_dNext l s 4 hd) (by simp only [go_sem]) (by simp only [go_sem]) (by simp only [go_sem]) (by simp only [go_sem]) ?_
    simp only [go_sem, hw]
    refine EffK.mk htr (by simp only [go_sem]) (by simp only [go_sem]) (by simp only [go_sem]) (by simp only [go_sem]) ?_
    simp only [go_sem]
    refine CallY.mk hva (by simp only [go_sem]) (by simp only [go_sem]) (.inl (by simp only [go_sem])) ?_
    simp only [go_sem]
   have b6 : (t.kind == 6) = false := beq_eq_false_iff_ne.2 k6
   by_cases k7 : t.kind = 7
   ·have b7 : (t.kind == 7) = true := beq_iff_eq.2 k7
    have e : looseP l (d + 1) s t most = (wordC (wdV l s t.size most), wdS l s t.size most) := by unfold looseP; rw [if_neg k1, if_neg k2, if_pos k7]
    have hsz : 1 <= t.size /\ t.size <= 1000000 := by
     unfold rightT at hr
     split at hr
     ·cases hr
     ·rw [if_neg (show ¬ (t.kind = 2 \/ t.kind = 6) by omega)] at hr
      simp only [Bool.and_eq_true, beq_iff_eq] at hr
      have h1 := hr.2
      unfold rankedL at h1
      simp only [Bool.and_eq_true, decide_eq_true_eq] at h1
      omega
    rw [e]
    simp only [go_sem, b1, b2, b6, b7]
    refine CallU.boxes (i := 0) (is := []) (bx0 := [deckA l s]) (con_dWordF l s t.size most hd (by omega) (by omega)) (by simp only [go_sem]) (by simp only [go_sem]) (by simp only [go_sem]) (by simp only [go_sem]) (by simp only [go_sem]) ?_
    rintro r b ⟨rfl, rfl⟩
    have hwl := wdV_len (l := l) (s := s) (letters := t.size) (most := most) hm.1
    simp only [go_sem]
    refine CallU.free (con_rWord (wdV l s t.size most) (by omega)) (by simp only [go_sem]) (by simp only [go_sem]) ?_
    rintro r bx rfl
    simp only [go_sem]
    exact leV_ag ⟨leV_refl _, leV_slE (by simp [wordC, CV.kids]) (fun y hy => by
     obtain ⟨x, _, rfl⟩ := List.mem_map.1 hy
     rw [vV_eq]; rfl) (kids_pw _), trivial⟩
   have b7 : (t.kind == 7) = false := beq_eq_false_iff_ne.2 k7
   by_cases k3 : t.kind = 3
   ·have b3 : (t.kind == 3) = true := beq_iff_eq.2 k3
    obtain ⟨f, hff⟩ : ∃ f : DS -> Nat -> CV × DS, f = fun s j => looseP l d s t.parts[j]! most := ⟨_, rfl⟩
    have e : looseP l (d + 1) s t most = (.mk 0 (dealN f s t.parts.length).1, (dealN f s t.parts.length).2) := by
     rw [hff]
     conv => lhs; unfold looseP
     rw [if_neg k1, if_neg k2, if_neg k7, if_pos k3]
    have hfd : ∀ i, Dk l (dealN f s i).2 := fun i => dealN_dk (fun s j h => by rw [hff]; exact looseP_dk d s _ _ h) hd i
    rw [e]
    simp only [go_sem, b1, b2, b6, b7, b3]
    refine LoopK.intro (fun i : Nat => ⟨89, [(0, .pb 0 0), (2, vi most), (4, .pb 1 0), (6, .pb 2 0), (7, .pb 3 0), (8, vi i)], [deckA l (dealN f s i).2, [vi t.kind, vi t.size, vs 0 t.ranks, .sl 0 4 (t.parts.map vT)], [.any, .any], [vi 0, .sl 4096 2 ((dealN f s i).1.map vV)]]⟩)
     (fun i => t.parts.length - i) (fun i => i <= t.parts.length) 0 (by omega) ?_ ?_
    ·simp only [go_sem, dealN, List.map_nil]
    rintro i hi
    have hdl := dealN_len (f := f) (s := s) i
    by_cases hlt : i < t.parts.length
    ·have hg2 := getvT hlt
     have hw : IntKind.i64.wrap (i + 1) = i + 1 := wrap_in (by omega) (by omega)
     have hcall := hrec _ (mem_bangI hlt) (dealN f s i).2 most (hfd i) hm
     rw [vT_eq] at hcall
     have hfi : looseP l d (dealN f s i).2 t.parts[i]! most = f (dealN f s i).2 i := by rw [hff]
     rw [hfi] at hcall
     simp only [go_sem, hlt, List.length_map]
     refine DrawK.effs0 0 [9] [] 11 (.one 11 (.front 12 (.one 13 .done))) none (deckA l (dealN f s i).2) mixed (by kernel_rfl) (by kernel_rfl) (by simp only [go_sem]) (by simp only [go_sem]) ?_
     simp only [go_sem, hlt, hg2]
     refine EffK.mk hcall (by simp only [go_sem]) (by simp only [go_sem]) (by simp only [go_sem]) (by simp only [go_sem]) ?_
     have hr2 : roomFor ((dealN f s i).1.length + 1) 32 := by rw [hdl]; simp only [roomFor]; omega
     simp only [go_sem, hw, List.length_map]
     refine ⟨⟨hr2, roundK.intro (i + 1) (by omega) (by omega) ?_⟩, trivial⟩
     simp only [go_sem, dealN, List.map_append, List.map_cons, List.map_nil]
     rw [vV_eq (f _ _).1]
     exact leV_refl _
    ·have ei : i = t.parts.length := by omega
     rw [ei]
     have hll : ¬ t.parts.length < t.parts.length := by omega
     simp only [go_sem, hll, List.length_map]
     exact leV_refl _
   have b3 : (t.kind == 3) = false := beq_eq_false_iff_ne.2 k3
   have hp1 := hf.one (show t.kind = 4 \/ t.kind = 5 by omega)
   have hp0 : 0 < t.parts.length := by omega
   have hg2 := getvT hp0
   obtain ⟨f, hff⟩ : ∃ f : DS -> Nat -> CV × DS, f = fun s _ => looseP l d s t.parts[0]! (max 0 (most - 1)) := ⟨_, rfl⟩
   obtain ⟨s1, hs1⟩ : ∃ s1, s1 = nextS l s (most + 1) := ⟨_, rfl⟩
   have hn := nextV_lt (l := l) (s := s) (n := most + 1) (by omega)
   obtain ⟨K, hK⟩ : ∃ K : Nat, nextV l s (most + 1) = (K : Int) := ⟨(nextV l s (most + 1)).toNat, by omega⟩
   have e : looseP l (d + 1) s t most = (.mk 0 (dealN f s1 K).1, (dealN f s1 K).2) := by
    rw [hff, hs1, show K = (nextV l s (most + 1)).toNat by omega]
    conv => lhs; unfold looseP
    rw [if_neg k1, if_neg k2, if_neg k7, if_neg k3, if_neg k6]
   have hd1 : Dk l s1 := by rw [hs1]; exact nextS_dk hd
   have hfd : ∀ i, Dk l (dealN f s1 i).2 := fun i => dealN_dk (fun s j h => by rw [hff]; exact looseP_dk d s _ _ h) hd1 i
   have hw0 : IntKind.i64.wrap (most + 1) = most + 1 := wrap_in (by omega) (by omega)
   have hwm : IntKind.i64.wrap (most - 1) = most - 1 := wrap_in (by omega) (by omega)
   rw [e]
   simp only [go_sem, b1, b2, b6, b7, b3, hw0]
   refine CallU.boxes (i := 0) (is := []) (bx0 := [deckA l s]) (con_dNext l s (most + 1) hd) (by simp only [go_sem]) (by simp only [go_sem]) (by simp only [go_sem]) (by simp only [go_sem]) (by simp only [go_sem]) ?_
   rintro r b ⟨rfl, rfl⟩
   rw [hK, <- hs1]
   simp only [go_sem]
   refine LoopK.intro (fun i : Nat => ⟨89, [(0, .pb 0 0), (2, vi most), (4, .pb 1 0), (6, .pb 2 0), (7, .pb 3 0), (9, vi ((K - i : Nat) : Int))], [deckA l (dealN f s1 i).2, [vi t.kind, vi t.size, vs 0 t.ranks, .sl 0 4 (t.parts.map vT)], [.any, .any], [vi 0, .sl 5568 2 ((dealN f s1 i).1.map vV)]]⟩)
    (fun i => K - i) (fun i => i <= K) 0 (by omega) ?_ ?_
   ·simp only [go_sem, dealN, List.map_nil, Nat.sub_zero]
   rintro i hi
   have hdl := dealN_len (f := f) (s := s1) i
   by_cases hlt : i < K
   ·have hgt : (0 : Int) < ((K - i : Nat) : Int) := by omega
    have hw : IntKind.i64.wrap (((K - i : Nat) : Int) - 1) = ((K - (i + 1) : Nat) : Int) := by rw [wrap_in (by omega) (by omega)]; omega
    have hcall := hrec _ (mem_bangI hp0) (dealN f s1 i).2 (max 0 (most - 1)) (hfd i) (by omega)
    rw [vT_eq] at hcall
    have hfi : looseP l d (dealN f s1 i).2 t.parts[0]! (max 0 (most - 1)) = f (dealN f s1 i).2 i := by rw [hff]
    rw [hfi] at hcall
    simp only [go_sem, hgt]
    refine DrawK.effs0 0 [10] [] 12 (.one 12 (.front 13 (.one 14 .done))) none (deckA l (dealN f s1 i).2) mixed (by kernel_rfl) (by kernel_rfl) (by simp only [go_sem]) (by simp only [go_sem]) ?_
    simp only [go_sem, hp0, hg2, hwm]
    refine EffK.mk hcall (by simp only [go_sem]) (by simp only [go_sem]) (by simp only [go_sem]) (by simp only [go_sem]) ?_
    have hr2 : roomFor ((dealN f s1 i).1.length + 1) 32 := by rw [hdl]; simp only [roomFor]; omega
    simp only [go_sem, hw, List.length_map]
    refine ⟨⟨hr2, roundK.intro (i + 1) (by omega) (by omega) ?_⟩, trivial⟩
    simp only [go_sem, dealN, List.map_append, List.map_cons, List.map_nil]
    rw [vV_eq (f _ _).1]
    exact leV_refl _
   ·have ei : i = K := by omega
    rw [ei]
    have hgt : ¬ (0 : Int) < ((K - K : Nat) : Int) := by omega
    simp only [go_sem, hgt]
    exact leV_refl _
  exact key.weak fun r b ⟨h1, h2⟩ => ⟨_, ⟨rfl, h2⟩, h1⟩
def noC : CV := .mk 0 []
def sortF (t : TD) (v : CV) : CV × Int := if 128 < countV v 128 then (noC, 5) else if validV t (srtT v t) = true then (srtT v t, 0) else (noC, 5)
theorem sortF_slim {t : TD} {v : CV} (h : v.Slim) : (sortF t v).1.Slim := by
 unfold sortF
 split
 ·exact .leaf 0
 ·split
  ·exact srt_slim _ _ _ (Nat.le_refl _) h
  ·exact .leaf 0
theorem con_rSortedG (t : TD) (v : CV) (ht : t.Ok) (hr : rightT 8 t = true) (hv : v.Slim) : Con Tryz.prog 108 [vT t, vV v] [] fun r _ => r = .tup [ownV 0 (sortF t v).1, vi (sortF t v).2] := by
 have key : Con Tryz.prog 108 [vT t, vV v] [] fun r _ => leV (r.freeze fun _ => true) (.tup [ownV 0 (sortF t v).1, vi (sortF t v).2]) := by
  have e0 := vV_eq v
  have e1 := vT_eq t
  have hc := con_rtCheckG t ht
  have hck : checkT t = 0 := by unfold checkT; rw [if_pos hr]
  rw [hck] at hc
  rw [e0, e1]
  refine Con.intro Tryz.func108 rfl Tryz.ntmps108 Tryz.results108 (by kernel_rfl) (by simp) 0 (by simp) ?_
  simp only [go_sem]
  refine CallU.free hc (by simp only [go_sem]) (by simp only [go_sem, e1]) ?_
  rintro r bx rfl
  simp only [go_sem]
  refine CallU.free (con_rcount v 128 (by omega) (by omega) hv.ok) (by simp only [go_sem]) (by simp only [go_sem, e0]) ?_
  rintro r bx rfl
  unfold sortF
  by_cases h : 128 < countV v 128
  ·rw [if_pos h]
   simp only [go_sem, h]
   exact leV_tup ⟨leV_ag ⟨leV_refl _, leV_nil _ _, trivial⟩, leV_refl _, trivial⟩
  rw [if_neg h]
  have hs := con_rsortedG _ 8 v t (Nat.le_refl _) hv ht hr
  have hva := con_rtValid t (srtT v t) ht (srt_slim _ _ _ (Nat.le_refl _) hv).ok
  have e2 := vV_eq (srtT v t)
  rw [e2] at hva
  simp only [go_sem, h]
  refine CallU.free hs (by simp only [go_sem]) (by simp only [go_sem, e0, e1]) ?_
  rintro r bx rfl
  simp only [go_sem]
  refine CallU.freeze hva (by simp only [go_sem]) (by simp only [go_sem, e1]) ?_
  rintro r bx rfl
  cases hq : validV t (srtT v t)
  ·rw [if_neg (by decide)]
   simp only [go_sem]
   exact leV_tup ⟨leV_ag ⟨leV_refl _, leV_nil _ _, trivial⟩, leV_refl _, trivial⟩
  ·rw [if_pos rfl]
   simp only [go_sem]
   exact leV_refl _
 exact (Con.freezeR (fun _ => true) key).weak fun r b ⟨r0, h0, h1⟩ => by
  subst h1
  exact ⟨_, rfl, h0⟩
def valF (l : List Int) (s : DS) (t : TD) : CV × DS :=
 if validV t (sortF t (looseP l 8 s t 3).1).1 = true then ((sortF t (looseP l 8 s t 3).1).1, (looseP l 8 s t 3).2)
 else ((sortF t (looseP l 8 (looseP l 8 s t 3).2 t 0).1).1, (looseP l 8 (looseP l 8 s t 3).2 t 0).2)
theorem valF_dk {l : List Int} {s : DS} {t : TD} (h : Dk l s) : Dk l (valF l s t).2 := by
 unfold valF
 split
 ·exact looseP_dk _ _ _ _ h
 ·exact looseP_dk _ _ _ _ (looseP_dk _ _ _ _ h)
theorem valF_slim {l : List Int} {s : DS} {t : TD} (ht : t.Ok) : (valF l s t).1.Slim := by
 unfold valF
 split
 ·exact sortF_slim (looseP_slim _ _ _ _ ht (by omega))
 ·exact sortF_slim (looseP_slim _ _ _ _ ht (by omega))
theorem con_dValueG (l : List Int) (s : DS) (t : TD) (h : Dk l s) (ht : t.Ok) (hr : rightT 8 t = true) :
  Con Tryz.prog 62 [.pb 0 0, vT t] [deckA l s] fun r b => r = ownV 0 (valF l s t).1 /\ b = [deckA l (valF l s t).2] := by
 have hloose : ∀ (s : DS) (most : Int), Dk l s -> 0 <= most /\ most <= 100 -> Con Tryz.prog 111 [.pb 0 0, vT t, vi most] [deckA l s] fun r b => r = ownV 0 (looseP l 8 s t most).1 /\ b = [deckA l (looseP l 8 s t most).2] := fun s most h1 h2 =>
  ((con_dlooseG l 8 s t most h1 hr ht h2).freezeB fun _ => true).mono fun r b ⟨r1, b1, ⟨h1, h2⟩, h3, h4⟩ => by
   subst h1; subst h2; subst h3; subst h4
   exact ⟨rfl, rfl⟩
 have e1 := vT_eq t
 have key : Con Tryz.prog 62 [.pb 0 0, vT t] [deckA l s] fun r b => r = ownV 0 (valF l s t).1 /\ b = [deckA l (valF l s t).2] := by
  have hl1 := hloose s 3 h (by omega)
  have hd1 := looseP_dk (l := l) 8 s t 3 h
  have hsl := looseP_slim (l := l) 8 s t 3 ht (by omega)
  have hl2 := hloose (looseP l 8 s t 3).2 0 hd1 (by omega)
  have hsl2 := looseP_slim (l := l) 8 (looseP l 8 s t 3).2 t 0 ht (by omega)
  have hs1 := con_rSortedG t (looseP l 8 s t 3).1 ht hr hsl
  have hs2 := con_rSortedG t (looseP l 8 (looseP l 8 s t 3).2 t 0).1 ht hr hsl2
  have hva := con_rtValid t (sortF t (looseP l 8 s t 3).1).1 ht (sortF_slim hsl).ok
  unfold valF
  generalize looseP l 8 (looseP l 8 s t 3).2 t 0 = q2 at hl2 hs2 ⊢
  generalize looseP l 8 s t 3 = q1 at hl1 hl2 hs1 hva ⊢
  obtain ⟨v1, s1⟩ := q1
  obtain ⟨v2, s2⟩ := q2
  simp only at hl1 hl2 hs1 hs2 hva ⊢
  have e3 := vV_eq v1
  have e4 := vV_eq v2
  have e5 := vV_eq (sortF t v1).1
  rw [e1] at hl1 hl2 ⊢
  rw [e1, e3] at hs1
  rw [e1, e4] at hs2
  rw [e1, e5] at hva
  refine Con.intro Tryz.func62 rfl Tryz.ntmps62 Tryz.results62 (by kernel_rfl) (by simp) 1 (by simp) ?_
  simp only [go_sem]
  refine DrawK.meet ⟨28, [(0, .pb 0 0), (3, .pb 1 0), (4, .pb 2 0), (5, .pb 3 0)], [deckA l s1, [vi t.kind, vi t.size, vs 0 t.ranks, .sl 0 4 (t.parts.map vT)], [.any, .any], [vi (sortF t v1).1.n, .sl 0 2 ((sortF t v1).1.kids.map vV)]]⟩ ?_ ?_
  ·refine DrawK.news0 [(8, 3)] [2] [] 0 [3] [] 9 (.one 9 (.one 10 .done)) (some (7, .alt (.one 7 (.one 9 (.one 10 .done))) (.one 9 (.one 7 (.one 10 .done))))) (deckA l s) mixed (by kernel_rfl) (by kernel_rfl) (by kernel_rfl) (by simp only [go_sem]) (by simp only [go_sem]) ⟨by simp only [go_sem], by simp only [go_sem]⟩ ⟨by simp only [go_sem], by simp only [go_sem]⟩ ?_
   simp only [go_sem]
   refine EffK.mk hl1 (by simp only [go_sem]) (by simp only [go_sem]) (by simp only [go_sem]) (by simp only [go_sem]) ?_
   have hrep : List.replicate 2 AV.any = [.any, .any] := rfl
   simp only [go_sem]
   refine CallY.mk hs1 (by simp only [go_sem]) (by simp only [go_sem]) (.inl (by simp only [go_sem])) ?_
   simp only [go_sem, hrep]
   repeat' (first | with_reducible apply andK_mk | exact trivial | simp only [go_sem])
  simp only [go_sem]
  refine CallU.free hva (by simp only [go_sem]) (by simp only [go_sem]) ?_
  rintro r bx rfl
  cases hq : validV t (sortF t v1).1
  case true =>
   rw [if_pos rfl]
   simp only [go_sem]
  rw [if_neg (by decide)]
  simp only [go_sem]
  refine DrawK.meet ⟨28, [(3, .pb 1 0), (4, .pb 2 0), (5, .pb 3 0)], [deckA l s2, [vi t.kind, vi t.size, vs 0 t.ranks, .sl 0 4 (t.parts.map vT)], [.any, .any], [vi (sortF t v2).1.n, .sl 0 2 ((sortF t v2).1.kids.map vV)]]⟩ ?_ ?_
  ·refine DrawK.effs0 0 [3] [] 8 (.one 8 .done) (some (7, .alt (.one 7 (.one 8 .done)) (.one 8 (.one 7 .done)))) (deckA l s1) mixed (by kernel_rfl) (by kernel_rfl) (by simp only [go_sem]) (by simp only [go_sem]) ?_
   simp only [go_sem]
   refine EffK.mk hl2 (by simp only [go_sem]) (by simp only [go_sem]) (by simp only [go_sem]) (by simp only [go_sem]) ?_
   simp only [go_sem]
   refine CallY.mk hs2 (by simp only [go_sem]) (by simp only [go_sem]) (.inl (by simp only [go_sem])) ?_
   simp only [go_sem]
  simp only [go_sem]
 exact key
structure LeafV (ts : List TD) (xs : List CV) : Prop where
 len : xs.length = ts.length
 few : ts.length <= 100
 leaf : ∀ j, j < ts.length -> xs[j]!.kids = []
 one : ∀ j, j < ts.length -> oneT xs[j]! ts[j]! = true
theorem leaf_srt {x : CV} (h : x.kids = []) (t : TD) : srtT x t = x := by
 obtain ⟨n, k⟩ := x
 have h : k = [] := h
 subst h
 rw [srt_eq]
 have e : srtK (.mk n []) t = [] := rfl
 rw [e]
 split
 ·rfl
 ·rfl
theorem leaf_prod {ts : List TD} {xs : List CV} (h : LeafV ts xs) (hr : rightT 8 (prodT ts) = true) : countV (.mk 0 xs) 128 <= 128 /\ srtT (.mk 0 xs) (prodT ts) = .mk 0 xs /\ validV (prodT ts) (.mk 0 xs) = true := by
 have hlf : ∀ k ∈ xs, k.kids.length = 0 := fun k hk => by
  obtain ⟨j, hj, rfl⟩ := List.getElem_of_mem hk
  have := h.leaf j (by rw [<- h.len]; exact hj)
  rw [getElem!_pos xs j hj] at this
  rw [this]; rfl
 have hf := h.few
 have hl := h.len
 have hc : countV (.mk 0 xs) 128 <= 128 := by
  rw [countV, count_leafs xs 128 1 hlf (by omega)]
  omega
 refine ⟨hc, ?_, ?_⟩
 ·rw [srt_eq, if_neg (by show ¬ (3 : Int) = 5; omega)]
  refine congrArg _ (ext_bangV (by rw [srtK_len]; rfl) fun j hj => ?_)
  rw [srtK_len] at hj
  have hj' : j < xs.length := hj
  rw [srtK_at hj]
  unfold srtF
  rw [if_pos ⟨rfl, by show j < ts.length; omega⟩]
  exact leaf_srt (h.leaf j (by omega)) _
 ·unfold validV
  rw [hr, decide_eq_true hc]
  show oneT (.mk 0 xs) (.mk 3 0 [] ts) = true
  rw [oneT]
  have hz : zipT xs ts = true := zipT_good hl fun j hj => h.one j (by omega)
  show ((0 : Int) == 0 && decide (xs.length = ts.length) && zipT xs ts) = true
  rw [decide_eq_true hl, hz]; rfl
def emptyT (t : TD) : Prop := t.kind = 1 \/ t.kind = 4 \/ t.kind = 5 \/ t.kind = 7
theorem one_empty {t : TD} (h : emptyT t) : oneT noC t = true := by
 have e : oneT noC t = if t.kind = 1 then decide ((0 : Int) <= 0) && decide ((0 : Int) <= 1048576) && true
   else if t.kind = 2 then decide ((0 : Int) <= 0) && decide ((0 : Int) < t.size) && true
   else if t.kind = 3 then true && decide (0 = t.parts.length) && zipT [] t.parts
   else if t.kind = 4 then true && decide (0 <= 12) && allT [] t.parts[0]!
   else if t.kind = 5 then true && decide (0 <= 12) && allT [] t.parts[0]! && sortedB []
   else if t.kind = 6 then decide (countV noC 12 <= 12) && taggedV noC t.size
   else true && decide (0 <= 12) && true := by unfold noC; rw [oneT]; rfl
 rw [e]
 rcases h with h | h | h | h <;> rw [h] <;> first | rfl | (simp [allT, sortedB])
theorem loose_empty {l : List Int} {d : Nat} {s : DS} {t : TD} (h : emptyT t) : (looseP l (d + 1) s t 0).1.kids = [] /\ oneT (looseP l (d + 1) s t 0).1 t = true := by
 have h0 := nextV_lt (l := l) (s := s) (n := 0 + 1) (by omega)
 unfold looseP
 by_cases h1 : t.kind = 1
 ·have h4 := nextV_lt (l := l) (s := s) (n := 4) (by omega)
  rw [if_pos h1]
  refine ⟨rfl, ?_⟩
  rw [oneT, if_pos h1]
  simp
  omega
 rw [if_neg h1, if_neg (by unfold emptyT at h; omega)]
 by_cases h7 : t.kind = 7
 ·rw [if_pos h7]
  have e : wdV l s t.size 0 = [] := by
   have := (wdN_le (l := l) (s := s) (most := 0) (by omega)).2
   have e2 : wdN l s 0 = 0 := by omega
   unfold wdV
   rw [e2]; rfl
  have e2 : wordC (wdV l s t.size 0) = noC := by rw [e]; rfl
  show (wordC (wdV l s t.size 0)).kids = [] /\ oneT (wordC (wdV l s t.size 0)) t = true
  rw [e2]
  exact ⟨rfl, one_empty h⟩
 ·rw [if_neg h7, if_neg (by unfold emptyT at h; omega), if_neg (by unfold emptyT at h; omega)]
  have e : (nextV l s (0 + 1)).toNat = 0 := by omega
  rw [e]
  exact ⟨rfl, one_empty h⟩
theorem loose_label {l : List Int} {d : Nat} {s : DS} {n most : Int} (hn : 1 <= n) : (looseP l (d + 1) s (labelT n) most).1.kids = [] /\ oneT (looseP l (d + 1) s (labelT n) most).1 (labelT n) = true := by
 have h := nextV_lt (l := l) (s := s) (n := n) hn
 have e : looseP l (d + 1) s (labelT n) most = (.mk (nextV l s n) [], nextS l s n) := by
  unfold looseP
  rw [if_neg (by show ¬ (2 : Int) = 1; omega), if_pos (by rfl)]; rfl
 rw [e]
 refine ⟨rfl, ?_⟩
 have e2 : oneT (.mk (nextV l s n) []) (.mk 2 n [] []) = (decide (0 <= nextV l s n) && decide (nextV l s n < n) && true) := by rw [oneT]; rfl
 show oneT (.mk (nextV l s n) []) (.mk 2 n [] []) = true
 rw [e2, decide_eq_true h.1, decide_eq_true h.2]; rfl
theorem dealN_at {f : DS -> Nat -> CV × DS} {s : DS} : ∀ {n j : Nat}, j < n -> (dealN f s n).1[j]! = (f (dealN f s j).2 j).1
 | n + 1, j, h => by
  have hl := dealN_len (f := f) (s := s) n
  rw [dealN]
  by_cases e : j = n
  ·subst e
   rw [getElem!_pos _ j (by rw [List.length_append, hl]; simp), List.getElem_append_right (by omega)]
   simp [hl]
  ·rw [getElem!_pos _ j (by rw [List.length_append, hl]; simp; omega), List.getElem_append_left (by omega), <- getElem!_pos _ j (by omega)]
   exact dealN_at (by omega)
theorem loose_valid {l : List Int} {s : DS} {n : Int} {ts : List TD} (hn : 1 <= n) (ht : ∀ t ∈ ts, emptyT t) (_ : rightT 8 (prodT (labelT n :: ts)) = true) (hl : ts.length <= 90) :
  ∃ xs, LeafV (labelT n :: ts) xs /\ (looseP l 8 s (prodT (labelT n :: ts)) 0).1 = .mk 0 xs := by
 refine ⟨(dealN (fun s j => looseP l 7 s (labelT n :: ts)[j]! 0) s (ts.length + 1)).1, ⟨by rw [dealN_len]; rfl, by rw [List.length_cons]; omega, fun j hj => ?_, fun j hj => ?_⟩, ?_⟩
 ·rw [List.length_cons] at hj
  rw [dealN_at hj]
  cases j with
  | zero => exact (loose_label hn).1
  | succ j =>
   have hm : ts[j]! ∈ ts := mem_bangI (by omega)
   have e : (labelT n :: ts)[j + 1]! = ts[j]! := by rw [getElem!_pos _ (j + 1) (by rw [List.length_cons]; omega), getElem!_pos ts j (by omega)]; rfl
   rw [e]
   exact (loose_empty (ht _ hm)).1
 ·rw [List.length_cons] at hj
  rw [dealN_at hj]
  cases j with
  | zero => exact (loose_label hn).2
  | succ j =>
   have hm : ts[j]! ∈ ts := mem_bangI (by omega)
   have e : (labelT n :: ts)[j + 1]! = ts[j]! := by rw [getElem!_pos _ (j + 1) (by rw [List.length_cons]; omega), getElem!_pos ts j (by omega)]; rfl
   rw [e]
   exact (loose_empty (ht _ hm)).2
 ·conv => lhs; unfold looseP
  rw [if_neg (by show ¬ (3 : Int) = 1; omega), if_neg (by show ¬ (3 : Int) = 2; omega), if_neg (by show ¬ (3 : Int) = 7; omega), if_pos (by rfl)]
  rfl
theorem valF_valid {l : List Int} {s : DS} {n : Int} {ts : List TD} (hn : 1 <= n) (ht : ∀ t ∈ ts, emptyT t) (hr : rightT 8 (prodT (labelT n :: ts)) = true) (hl : ts.length <= 90) :
  validV (prodT (labelT n :: ts)) (valF l s (prodT (labelT n :: ts))).1 = true := by
 unfold valF
 split
 ·rename_i h
  exact h
 ·obtain ⟨xs, h1, h2⟩ := loose_valid (l := l) (s := (looseP l 8 s (prodT (labelT n :: ts)) 3).2) hn ht hr hl
  obtain ⟨c1, c2, c3⟩ := leaf_prod h1 hr
  show validV _ (sortF _ (looseP l 8 (looseP l 8 s (prodT (labelT n :: ts)) 3).2 (prodT (labelT n :: ts)) 0).1).1 = true
  rw [h2]
  unfold sortF
  rw [if_neg (by omega), c2, if_pos c3]
  exact c3
mutual
def nV : CV -> Int
 | .mk _ kids => nVs kids + 1
def nVs : List CV -> Int
 | [] => 0
 | k :: l => nV k + nVs l
end
mutual
theorem nV_pos : ∀ v : CV, 1 <= nV v
 | .mk _ kids => by have := nVs_pos kids; rw [nV]; omega
theorem nVs_pos : ∀ l : List CV, 0 <= nVs l
 | [] => by rw [nVs]; omega
 | k :: l => by have := nV_pos k; have := nVs_pos l; rw [nVs]; omega
end
mutual
theorem countV_eq : ∀ (v : CV) (most : Int), 0 <= most -> countV v most = min (nV v) (most + 1)
 | .mk _ kids, most, h => by
  have := countVs_eq kids most 1 h (by omega) (by omega)
  rw [countV, nV, this, Int.add_comm]
theorem countVs_eq : ∀ (l : List CV) (most n : Int), 0 <= most -> 1 <= n -> n <= most + 1 -> countVs l most n = min (n + nVs l) (most + 1)
 | [], most, n, h, h1, h2 => by rw [countVs, nVs]; omega
 | k :: l, most, n, h, h1, h2 => by
  have hp := nVs_pos l
  have hk := nV_pos k
  rw [countVs, nVs]
  by_cases hm : most < n
  ·rw [if_pos hm]; omega
  ·rw [if_neg hm]
   have e1 := countV_eq k (most - n) (by omega)
   rw [e1]
   have e2 := countVs_eq l most (n + min (nV k) (most - n + 1)) h (by omega) (by omega)
   rw [e2]; omega
end
theorem nV_kid {l : List CV} {x : CV} (h : x ∈ l) : nV x <= nVs l := by
 induction l with
 | nil => cases h
 | cons y l ih =>
  rw [nVs]
  rcases List.mem_cons.1 h with rfl | h
  ·have := nVs_pos l; omega
  ·have := ih h; have := nV_pos y; omega
theorem nV_with {s : Int} {l : List CV} : nV (withC s l) = nVs l + 2 := by
 unfold withC
 rw [nV, nVs, nV, nVs]; omega
theorem cmpV_self (a : CV) : cmpV a a = 0 := by have := cmpV_anti a a; omega
theorem parts_few {s : Int} {l : List CV} (h : countV (withC s l) 128 <= 128) : (l.any fun x => decide (128 < countV x 128)) = false := by
 rw [countV_eq _ _ (by omega), nV_with] at h
 rw [List.any_eq_false]
 intro x hx
 have := nV_kid hx
 rw [countV_eq _ _ (by omega), decide_eq_true_eq]
 omega
theorem valid_with {m : MD} {c : CV} (h : validV (typeM m) c = true) : c = withC c.kids[0]!.n (c.kids.drop 1) /\ 0 <= c.kids[0]!.n /\ c.kids[0]!.n < m.states.length /\ (c.kids.drop 1).length + 1 = (partsM m).length := by
 unfold validV at h
 simp only [Bool.and_eq_true] at h
 have ho := h.2
 obtain ⟨n, kids⟩ := c
 unfold typeM prodT at ho
 rw [oneT] at ho
 simp only [TD.kind, TD.size, TD.parts] at ho
 rw [if_pos trivial, if_neg (by omega), if_neg (by omega)] at ho
 simp only [Bool.and_eq_true, beq_iff_eq] at ho
 obtain ⟨⟨h1, h2⟩, h3⟩ := ho
 have hp : partsM m = labelT m.states.length :: (partsM m).tail := rfl
 rw [hp] at h2 h3
 cases kids with
 | nil => simp at h2
 | cons k l =>
  rw [zipT, Bool.and_eq_true] at h3
  obtain ⟨kn, kk⟩ := k
  have h4 := h3.1
  unfold labelT at h4
  rw [oneT] at h4
  simp only [TD.kind, TD.size] at h4
  rw [if_pos trivial, if_neg (by omega)] at h4
  simp only [Bool.and_eq_true, beq_iff_eq, decide_eq_true_eq, List.length_eq_zero_iff] at h4
  obtain ⟨⟨h5, h6⟩, h7⟩ := h4
  subst h7; subst h1
  refine ⟨rfl, h5, of_decide_eq_true h6, ?_⟩
  rw [hp]
  exact of_decide_eq_true h2
structure OwnX (m : MD) : Prop where
 kind : betweenB m.kind 1 6 = true
 sized : sizedB (noR m zeroV) = true
 ranked : rankedB m = true
 names : namesB (m.states ++ m.places ++ m.letters) = true
 sizes : ∀ s ∈ m.states ++ m.places ++ m.letters, s.size <= 9223372036854775806
theorem sized_nums {m : MD} (h : sizedB m = true) : (1 <= m.states.length /\ m.states.length <= 8) /\ m.places.length <= 6 /\ m.letters.length <= 6 /\ m.rules.length <= 12 /\ (lim m.kind 0 <= m.places.length /\ (m.places.length : Int) <= lim m.kind 1) /\ (lim m.kind 2 <= m.letters.length /\ (m.letters.length : Int) <= lim m.kind 3) /\ (lim m.kind 4 <= m.levels /\ m.levels <= lim m.kind 5) /\ (lim m.kind 6 <= m.age /\ m.age <= lim m.kind 7) := by
 unfold sizedB betweenB at h
 simp only [Bool.and_eq_true, decide_eq_true_eq] at h
 obtain ⟨⟨⟨⟨⟨h1, h2⟩, h3⟩, h4⟩, h5⟩, h6⟩ := h
 have hlim : ∀ k : Int, lim k 1 <= 6 /\ lim k 3 <= 6 := fun k => by
  unfold lim limF
  split
  ·decide
  ·split
   ·decide
   ·split <;> decide
 have := hlim m.kind
 exact ⟨by omega, by omega, by omega, h2, h3, h4, h5, h6⟩
theorem OwnX.len {m : MD} (h : OwnX m) {st : CV} (hs : st.Ok) : LenM (noR m st) := by
 have hn := sized_nums h.sized
 have e1 : (noR m zeroV).states = m.states := rfl
 have e2 : (noR m zeroV).places = m.places := rfl
 have e3 : (noR m zeroV).letters = m.letters := rfl
 rw [e1, e2, e3] at hn
 have hnames : namesOf (noR m st) = m.states ++ m.places ++ m.letters := by
  show m.states ++ m.places ++ m.letters ++ [] = _
  rw [List.append_nil]
 refine ⟨?_, ?_, ?_, fun r hr => (by cases hr), hs⟩
 ·rw [hnames, List.length_append, List.length_append]; omega
 ·rw [hnames]; exact h.sizes
 ·have := h.ranked
  show m.ranks.length <= _
  unfold rankedB at this
  split at this
  ·rw [Bool.and_eq_true, decide_eq_true_eq] at this
   omega
  ·rw [beq_iff_eq] at this
   omega
theorem OwnX.check {m : MD} (h : OwnX m) (st : CV) : checkF (noR m st) = if beginsF (noR m st) = false then 17 else 0 := by
 have hnames : namesOf (noR m st) = m.states ++ m.places ++ m.letters := by
  show m.states ++ m.places ++ m.letters ++ [] = _
  rw [List.append_nil]
 have h1 : betweenB (noR m st).kind 1 6 = true := h.kind
 have h2 : sizedB (noR m st) = true := h.sized
 have h3 : rankedB (noR m st) = true := h.ranked
 have h4 : namesB (namesOf (noR m st)) = true := by rw [hnames]; exact h.names
 have h5 : ((noR m st).rules.any fun r => !rightR (noR m st) r) = false := rfl
 unfold checkF
 rw [h1, h2, h3, h4, h5]
 simp only [Bool.true_eq_false, Bool.false_eq_true, if_false]
theorem OwnX.size {m : MD} (h : OwnX m) : SizeM m /\ m.places.length <= 999999 := by
 have := sized_size (m := noR m zeroV) (h.len (.mk 0 [] (by simp) (fun x hx => by cases hx))) h.sized h.ranked
 exact ⟨⟨this.1.states, this.1.places, this.1.letters, this.1.ranks, this.1.levels, this.1.age, this.1.prio⟩, this.2⟩
theorem OwnX.kinds {m : MD} (h : OwnX m) : 1 <= m.kind /\ m.kind <= 6 := by
 have := h.kind
 unfold betweenB at this
 simpa using this
theorem parts_empty {m : MD} : ∀ t ∈ (partsM m).tail, emptyT t := fun t ht => by
 unfold partsM at ht
 rw [List.tail_cons] at ht
 split at ht
 ·rw [List.mem_singleton] at ht; subst ht
  have : ∀ n, (nodesT m.letters.length n).kind = 5 := fun n => by
   unfold nodesT; split <;> rfl
  exact .inr (.inr (.inl (this _)))
 ·split at ht
  ·rw [List.mem_singleton] at ht; subst ht; exact .inr (.inr (.inl rfl))
  ·rw [List.eq_of_mem_replicate ht]
   unfold placeT
   split
   ·exact .inr (.inl rfl)
   ·split
    ·exact .inr (.inr (.inr rfl))
    ·exact .inl rfl
theorem partsM_cons (m : MD) : partsM m = labelT m.states.length :: (partsM m).tail := by unfold partsM; rfl
theorem partsM_len {m : MD} (h : OwnX m) : (partsM m).length <= 7 := by
 have hn := (sized_nums h.sized).2.1
 have e2 : (noR m zeroV).places = m.places := rfl
 rw [e2] at hn
 unfold partsM
 rw [List.length_cons]
 split
 ·simp
 ·split
  ·simp
  ·rw [List.length_replicate]; omega
theorem right_label (d : Nat) {n : Int} (h : 1 <= n /\ n <= 16) : rightT (d + 1) (labelT n) = true := by
 unfold rightT labelT
 simp [TD.kind, TD.size, TD.parts, TD.ranks, h.1, h.2]
theorem right_bag (d : Nat) {k : Int} {t : TD} (hk : k = 4 \/ k = 5) (h : rightT d t = true) : rightT (d + 1) (listT k t) = true := by
 unfold rightT listT
 rcases hk with rfl | rfl <;> simp [TD.kind, TD.size, TD.parts, TD.ranks, h]
theorem right_prod (d : Nat) {l : List TD} (h1 : 1 <= l.length /\ l.length <= 8) (h : ∀ t ∈ l, rightT d t = true) : rightT (d + 1) (prodT l) = true := by
 have hne : l ≠ [] := fun e => by rw [e] at h1; simp at h1
 unfold rightT prodT
 simp [TD.kind, TD.size, TD.parts, TD.ranks, h1.2, hne]
 exact h
theorem type_right {m : MD} (h : OwnX m) : rightT 8 (typeM m) = true := by
 have hn := sized_nums h.sized
 have hk := h.kinds
 have e0 : (noR m zeroV).kind = m.kind := rfl
 have e1 : (noR m zeroV).states = m.states := rfl
 have e2 : (noR m zeroV).places = m.places := rfl
 have e3 : (noR m zeroV).letters = m.letters := rfl
 have e4 : (noR m zeroV).levels = m.levels := rfl
 have e5 : (noR m zeroV).age = m.age := rfl
 rw [e0, e1, e2, e3, e4, e5] at hn
 have hpl := partsM_len h
 refine right_prod 7 ⟨by rw [partsM_cons, List.length_cons]; omega, by omega⟩ fun t ht => ?_
 rw [partsM_cons] at ht
 rcases List.mem_cons.1 ht with rfl | ht
 ·exact right_label 6 (by omega)
 ·unfold partsM at ht
  rw [List.tail_cons] at ht
  split at ht
  ·rename_i h4
   rw [List.mem_singleton] at ht; subst ht
   have l4 : lim 4 2 = 1 /\ lim 4 4 = 1 /\ lim 4 5 = 2 := by decide
   rw [h4] at hn
   have hl : 1 <= (m.letters.length : Int) /\ (m.letters.length : Int) <= 16 := by omega
   have hlv : m.levels.toNat = 1 \/ m.levels.toNat = 2 := by omega
   rcases hlv with e | e
   ·rw [e]; exact right_bag 6 (.inr rfl) (right_label 5 hl)
   ·rw [e]
    refine right_bag 6 (.inr rfl) (right_prod 5 (by simp) fun t ht => ?_)
    simp only [List.mem_cons, List.not_mem_nil, or_false] at ht
    rcases ht with rfl | rfl
    ·exact right_label 4 hl
    ·exact right_bag 4 (.inr rfl) (right_label 3 hl)
  ·split at ht
   ·rename_i h5
    rw [List.mem_singleton] at ht; subst ht
    have l5 : lim 5 0 = 1 /\ lim 5 6 = 0 /\ lim 5 7 = 3 := by decide
    rw [h5] at hn
    refine right_bag 6 (.inr rfl) (right_prod 5 (by simp) fun t ht => ?_)
    simp only [List.mem_cons, List.not_mem_nil, or_false] at ht
    rcases ht with rfl | rfl
    ·exact right_label 4 (by omega)
    ·exact right_label 4 (by omega)
   ·rw [List.eq_of_mem_replicate ht]
    unfold placeT
    split
    ·rename_i h2
     have l2 : lim 2 2 = 1 := by decide
     rw [h2] at hn
     exact right_bag 6 (.inl rfl) (right_label 5 (by omega))
    ·split
     ·rename_i h3
      have l3 : lim 3 2 = 1 := by decide
      rw [h3] at hn
      have hr := h.ranked
      unfold rankedB at hr
      rw [if_pos h3, Bool.and_eq_true, decide_eq_true_eq] at hr
      have hrl : rankedL m.ranks = true := by
       unfold rankedL
       have hany : m.ranks.any badRank = false := by
        rw [List.any_eq_false]
        intro x hx
        have := List.all_eq_true.1 hr.2 x hx
        unfold betweenB at this
        rw [Bool.and_eq_true, decide_eq_true_eq, decide_eq_true_eq] at this
        unfold badRank
        simp
        omega
       rw [hany, decide_eq_true (show 1 <= m.ranks.length by omega), decide_eq_true (show m.ranks.length <= 6 by omega)]; rfl
      unfold rightT
      simp [TD.kind, TD.size, TD.parts, TD.ranks, hr.1, hrl]
     ·unfold rightT
      simp [TD.kind, TD.size, TD.parts, TD.ranks]
def lowN (m : MD) : Nat := if m.kind = 4 \/ m.kind = 5 then 1 else m.places.length
def leastC (m : MD) : CV := .mk 0 ((0 :: List.replicate (lowN m) (0 : Int)).map fun n => .mk n [])
theorem parts_low (m : MD) : (partsM m).length = lowN m + 1 := by
 unfold partsM lowN
 rw [List.length_cons]
 by_cases h4 : m.kind = 4
 ·rw [if_pos h4, if_pos (.inl h4)]; rfl
 ·rw [if_neg h4]
  by_cases h5 : m.kind = 5
  ·rw [if_pos h5, if_pos (.inr h5)]; rfl
  ·rw [if_neg h5, if_neg (by omega), List.length_replicate]
theorem least_leaf {m : MD} (h : OwnX m) : LeafV (partsM m) ((0 :: List.replicate (lowN m) (0 : Int)).map fun n => CV.mk n []) := by
 have hpl := partsM_len h
 have hlow := parts_low m
 have hat : ∀ j, j < lowN m + 1 -> ((0 :: List.replicate (lowN m) (0 : Int)).map fun n => CV.mk n [])[j]! = noC := fun j hj => by
  rw [getElem!_pos _ j (by simp; omega), List.getElem_map]
  have e : (0 :: List.replicate (lowN m) (0 : Int)) = List.replicate (lowN m + 1) 0 := rfl
  simp only [e, List.getElem_replicate]; rfl
 refine ⟨by rw [List.length_map, List.length_cons, List.length_replicate, hlow], by omega, fun j hj => ?_, fun j hj => ?_⟩
 ·rw [hat j (by omega)]; rfl
 ·rw [hat j (by omega)]
  cases j with
  | zero =>
   have e : (partsM m)[0]! = labelT m.states.length := by rw [partsM_cons]; rfl
   have hn := (sized_nums h.sized).1
   have e1 : (noR m zeroV).states = m.states := rfl
   rw [e1] at hn
   rw [e]
   have e2 : oneT noC (labelT m.states.length) = (decide ((0 : Int) <= 0) && decide ((0 : Int) < m.states.length) && true) := by unfold noC labelT; rw [oneT]; rfl
   rw [e2, decide_eq_true (show (0 : Int) < m.states.length by omega)]; rfl
  | succ j =>
   refine one_empty (parts_empty (m := m) _ ?_)
   have hj2 : j < (partsM m).tail.length := by rw [List.length_tail]; omega
   have e : (partsM m)[j + 1]! = (partsM m).tail[j]! := by
    rw [getElem!_pos _ (j + 1) hj, getElem!_pos _ j hj2, List.getElem_tail]
   rw [e]
   exact mem_bangI hj2
theorem least_valid {m : MD} (h : OwnX m) : validV (typeM m) (leastC m) = true := (leaf_prod (least_leaf h) (type_right h)).2.2
theorem zero_invalid {m : MD} : validV (typeM m) zeroV = false := by
 have e : oneT zeroV (typeM m) = false := by
  unfold zeroV typeM prodT
  rw [oneT]
  show ((0 : Int) == 0 && decide (0 = (partsM m).length) && zipT [] (partsM m)) = false
  rw [parts_low, decide_eq_false (by omega)]; rfl
 unfold validV
 rw [e, Bool.and_false]
theorem con_leastX (m : MD) (hp : m.places.length <= 100) : Con Tryz.prog 141 [vM m] [] fun r _ => r = ownV 0 (leastC m) := by
 have key : Con Tryz.prog 141 [vM m] [] fun r _ => r = cfgN 2 0 (List.replicate (lowN m) 0) := by
  refine Con.intro Tryz.func141 rfl Tryz.ntmps141 Tryz.results141 (by kernel_rfl) (by simp) 0 (by simp) ?_
  have hlw : lowN m <= 100 := by unfold lowN; split <;> omega
  obtain ⟨n, hn⟩ : ∃ n, n = lowN m := ⟨_, rfl⟩
  rw [<- hn] at hlw ⊢
  simp only [go_sem, vM, cM, vss]
  by_cases h4 : m.kind = 4
  ·have b4 : (m.kind == 4) = true := beq_iff_eq.2 h4
   have hl : (1 : Int) = (n : Int) := by rw [hn]; unfold lowN; rw [if_pos (.inl h4)]; rfl
   simp only [go_sem, b4, hl]
   refine LoopK.intro (fun i : Nat => ⟨32, [(2, .pb 1 0), (3, .pb 2 0), (4, vi n), (5, vi i)], [[.any, .any, .any, .any, .any, .any, .any, .any, .any, .any], [.any, .any], [vi 0, .sl 512 2 ((0 :: List.replicate i 0).map kidN)]]⟩)
    (fun i => n - i) (fun i => i <= n) 0 (by omega) ?_ ?_
   ·simp only [go_sem, List.replicate_zero, List.map_cons, List.map_nil]
   rintro i hi
   by_cases h : i < n
   ·have hw : IntKind.i64.wrap (i + 1) = i + 1 := wrap_in (by omega) (by omega)
    have hlt : (i : Int) < ((n : Nat) : Int) := by omega
    have e : List.replicate (i + 1) (0 : Int) = List.replicate i 0 ++ [0] := List.replicate_succ'
    have hr : roomFor ((List.replicate i (0 : Int)).length + 1 + 1) 32 := by rw [List.length_replicate]; simp only [roomFor]; omega
    simp only [go_sem, h, hw, hr, List.map_cons, List.length_cons, List.length_map]
    refine roundK.intro (i + 1) (by omega) (by omega) ?_
    simp only [go_sem, e, List.map_append, List.map_cons, List.map_nil]
   ·have e : i = n := by omega
    subst e
    have hnn : ¬ i < i := by omega
    simp only [go_sem, hnn, List.map_cons]
  have b4 : (m.kind == 4) = false := beq_eq_false_iff_ne.2 h4
  by_cases h5 : m.kind = 5
  ·have b5 : (m.kind == 5) = true := beq_iff_eq.2 h5
   have hl : (1 : Int) = (n : Int) := by rw [hn]; unfold lowN; rw [if_pos (.inr h5)]; rfl
   simp only [go_sem, b4, b5, hl]
   refine LoopK.intro (fun i : Nat => ⟨32, [(2, .pb 1 0), (3, .pb 2 0), (4, vi n), (5, vi i)], [[.any, .any, .any, .any, .any, .any, .any, .any, .any, .any], [.any, .any], [vi 0, .sl 512 2 ((0 :: List.replicate i 0).map kidN)]]⟩)
    (fun i => n - i) (fun i => i <= n) 0 (by omega) ?_ ?_
   ·simp only [go_sem, List.replicate_zero, List.map_cons, List.map_nil]
   rintro i hi
   by_cases h : i < n
   ·have hw : IntKind.i64.wrap (i + 1) = i + 1 := wrap_in (by omega) (by omega)
    have hlt : (i : Int) < ((n : Nat) : Int) := by omega
    have e : List.replicate (i + 1) (0 : Int) = List.replicate i 0 ++ [0] := List.replicate_succ'
    have hr : roomFor ((List.replicate i (0 : Int)).length + 1 + 1) 32 := by rw [List.length_replicate]; simp only [roomFor]; omega
    simp only [go_sem, h, hw, hr, List.map_cons, List.length_cons, List.length_map]
    refine roundK.intro (i + 1) (by omega) (by omega) ?_
    simp only [go_sem, e, List.map_append, List.map_cons, List.map_nil]
   ·have e : i = n := by omega
    subst e
    have hnn : ¬ i < i := by omega
    simp only [go_sem, hnn, List.map_cons]
  have b5 : (m.kind == 5) = false := beq_eq_false_iff_ne.2 h5
  have hl : m.places.length = n := by rw [hn]; unfold lowN; rw [if_neg (by omega)]
  simp only [go_sem, b4, b5, hl]
  refine LoopK.intro (fun i : Nat => ⟨32, [(2, .pb 1 0), (3, .pb 2 0), (4, vi n), (5, vi i)], [[.any, .any, .any, .any, .any, .any, .any, .any, .any, .any], [.any, .any], [vi 0, .sl 512 2 ((0 :: List.replicate i 0).map kidN)]]⟩)
   (fun i => n - i) (fun i => i <= n) 0 (by omega) ?_ ?_
  ·simp only [go_sem, List.replicate_zero, List.map_cons, List.map_nil]
  rintro i hi
  by_cases h : i < n
  ·have hw : IntKind.i64.wrap (i + 1) = i + 1 := wrap_in (by omega) (by omega)
   have hlt : (i : Int) < ((n : Nat) : Int) := by omega
   have e : List.replicate (i + 1) (0 : Int) = List.replicate i 0 ++ [0] := List.replicate_succ'
   have hr : roomFor ((List.replicate i (0 : Int)).length + 1 + 1) 32 := by rw [List.length_replicate]; simp only [roomFor]; omega
   simp only [go_sem, h, hw, hr, List.map_cons, List.length_cons, List.length_map]
   refine roundK.intro (i + 1) (by omega) (by omega) ?_
   simp only [go_sem, e, List.map_append, List.map_cons, List.map_nil]
  ·have e : i = n := by omega
   subst e
   have hnn : ¬ i < i := by omega
   simp only [go_sem, hnn, List.map_cons]
 refine (Con.freezeR (fun _ => true) key).weak fun r b ⟨r0, h0, h1⟩ => ?_
 subst h0; subst h1
 exact ⟨_, rfl, leV_ag ⟨leV_refl _, leV_slE (by simp [leastC, CV.kids]) (fun y hy => by
  obtain ⟨x, _, rfl⟩ := List.mem_map.1 hy
  rw [vV_eq]; rfl) (kids_pw (0 :: List.replicate (lowN m) 0)), trivial⟩⟩
def stX (m : MD) (k : Nat) : CV := if k = 0 then zeroV else leastC m
theorem con_mTypeX (m : MD) (h : OwnX m) : Con Tryz.prog 87 [noSA m] [] fun r _ => r = vT (typeM m) := by
 have hz : zeroV.Ok := .mk 0 [] (by simp) (fun x hx => by cases hx)
 have hlo : (leastC m).Ok := by
  have hl := least_leaf h
  refine .mk _ _ ?_ fun x hx => ?_
  ·have := hl.len; have := hl.few; omega
  ·obtain ⟨n, _, rfl⟩ := List.mem_map.1 hx
   exact .mk _ _ (by simp) (fun x hx => by cases hx)
 have hp : m.places.length <= 100 := by
  have := (sized_nums h.sized).2.1
  have e2 : (noR m zeroV).places = m.places := rfl
  rw [e2] at this; omega
 have ht0 := con_rTypeG (noR m zeroV) (h.len hz)
 have ht1 := con_rTypeG (noR m (leastC m)) (h.len hlo)
 have hl := con_leastX (noR m zeroV) hp
 have e1 : ∀ st, typeM (noR m st) = typeM m := fun _ => rfl
 have el : leastC (noR m zeroV) = leastC m := rfl
 have hk6 : m.kind = 6 -> checkF (noR m zeroV) = 0 := fun h6 => by
  rw [h.check]
  have : beginsF (noR m zeroV) = true := by
   unfold beginsF
   rw [if_pos (show (noR m zeroV).kind = 6 from h6)]; rfl
  rw [this]; rfl
 have hn6 : m.kind ≠ 6 -> checkF (noR m zeroV) = 17 /\ checkF (noR m (leastC m)) = 0 := fun h6 => by
  have a1 : beginsF (noR m zeroV) = false := by
   unfold beginsF
   rw [if_neg (show ¬ (noR m zeroV).kind = 6 from h6)]
   exact zero_invalid
  have a2 : beginsF (noR m (leastC m)) = true := by
   unfold beginsF
   rw [if_neg (show ¬ (noR m (leastC m)).kind = 6 from h6)]
   show validV (typeM m) (leastC m) = true
   exact least_valid h
  rw [h.check, h.check, a1, a2]
  exact ⟨rfl, rfl⟩
 have eT := vT_eq (typeM m)
 refine Con.intro Tryz.func87 rfl Tryz.ntmps87 Tryz.results87 (by kernel_rfl) (by simp) 0 (by simp) ?_
 simp only [go_sem, vss]
 refine LoopK.intro (fun k : Nat => ⟨25, [(2, .pb 1 0), (3, .pb 2 0), (4, vi k)], [[.any, .any, .any, .any, .any, .any, .any, .any, .any, .any], [.any, .any, .any, .any],
   [vi m.kind, vss m.states, vss m.places, vss m.letters, vs 0 m.ranks, vi m.levels, vi m.age, .nil, vi (stX m k).n, .sl 0 2 ((stX m k).kids.map vV)]] ++ Rk 4 k⟩)
  (fun k => 2 - k) (fun k => k <= 1 /\ (k = 1 -> m.kind ≠ 6)) 0 ⟨by omega, fun h => by omega⟩ ?_ ?_
 ·have z1 : zeroV.n = 0 := rfl
  have z2 : zeroV.kids = [] := rfl
  simp only [go_sem, vss, stX, if_true, z1, z2, List.map_nil]
  all_goals exact leB_self _
 rintro k ⟨hk, hk2⟩
 have z1 : zeroV.n = 0 := rfl
 have z2 : zeroV.kids = [] := rfl
 obtain rfl | rfl : k = 0 \/ k = 1 := by omega
 ·have s0 : stX m 0 = zeroV := rfl
  have s1 : stX m 1 = leastC m := rfl
  have hr0 : Rk 4 0 = [] := rfl
  by_cases h6 : m.kind = 6
  ·have hck := hk6 h6
   have htF : typeF (noR m zeroV) = typeM m := by unfold typeF; rw [if_pos hck]; rfl
   rw [hck, htF, eT] at ht0
   simp only [go_sem, s0, z1, z2, vss, List.map_nil, hr0]
   refine CallU.free (ht0.leA (args' := [noRA m zeroV]) ⟨noR_le m zeroV, trivial⟩) (by simp only [go_sem]) (by simp only [go_sem, vss, z1, z2, List.map_nil]) ?_
   rintro r bx rfl
   simp only [go_sem, eT]
  ·obtain ⟨hc0, hc1⟩ := hn6 h6
   have htF : typeF (noR m zeroV) = zeroT := by unfold typeF; rw [hc0]; rfl
   have eZ := vT_eq zeroT
   rw [hc0, htF, eZ] at ht0
   rw [el] at hl
   simp only [go_sem, s0, z1, z2, vss, List.map_nil, hr0]
   refine CallU.free (ht0.leA (args' := [noRA m zeroV]) ⟨noR_le m zeroV, trivial⟩) (by simp only [go_sem]) (by simp only [go_sem, vss, z1, z2, List.map_nil]) ?_
   rintro r bx rfl
   simp only [go_sem]
   refine CallU.free (hl.leA (args' := [noRA m zeroV]) ⟨noR_le m zeroV, trivial⟩) (by simp only [go_sem]) (by simp only [go_sem, vss, z1, z2, List.map_nil]) ?_
   rintro r bx rfl
   have hw : IntKind.i64.wrap 1 = 1 := by decide
   simp only [go_sem, hw]
   refine roundK.intro 1 ⟨by omega, fun _ => h6⟩ (by omega) ?_
   simp only [go_sem, s1]
   exact ⟨leC_any _ 4 rfl, trivial⟩
 ·have s1 : stX m 1 = leastC m := rfl
  have hr1 : Rk 4 1 = [[.any, .any, .any, .any]] := rfl
  obtain ⟨hc0, hc1⟩ := hn6 (hk2 rfl)
  have htF : typeF (noR m (leastC m)) = typeM m := by unfold typeF; rw [if_pos hc1]; rfl
  rw [hc1, htF, eT] at ht1
  simp only [go_sem, s1, vss, hr1]
  refine CallU.free (ht1.leA (args' := [noRA m (leastC m)]) ⟨noR_le m _, trivial⟩) (by simp only [go_sem]) (by simp only [go_sem, vss]) ?_
  rintro r bx rfl
  simp only [go_sem, eT]
theorem con_dConfigX (l : List Int) (s : DS) (m : MD) (h : OwnX m) (hd : Dk l s) :
  Con Tryz.prog 31 [.pb 0 0, hidA m] [deckA l s] fun r b => r = ownV 0 (valF l s (typeM m)).1 /\ b = [deckA l (valF l s (typeM m)).2] := by
 have hsz := h.size
 have hv := con_dValueG l s (typeM m) hd (type_ok hsz.1 hsz.2) (type_right h)
 have ht := con_mTypeX m h
 have e1 := vT_eq (typeM m)
 rw [e1] at hv ht
 refine Con.intro Tryz.func31 rfl Tryz.ntmps31 Tryz.results31 (by kernel_rfl) (by simp) 1 (by simp) ?_
 simp only [go_sem, vss]
 refine CallU.free ht (by simp only [go_sem]) (by simp only [go_sem, vss]) ?_
 rintro r bx rfl
 simp only [go_sem]
 refine CallU.boxes (i := 0) (is := []) (bx0 := [deckA l s]) hv (by simp only [go_sem]) (by simp only [go_sem]) (by simp only [go_sem]) (by simp only [go_sem]) (by simp only [go_sem]) ?_
 rintro r b ⟨rfl, rfl⟩
 simp only [go_sem]
theorem config_valid {l : List Int} {s : DS} {m : MD} (h : OwnX m) : validV (typeM m) (valF l s (typeM m)).1 = true := by
 have hn := sized_nums h.sized
 have e1 : (noR m zeroV).states = m.states := rfl
 rw [e1] at hn
 have hpl := partsM_len h
 have hr := type_right h
 unfold typeM at hr ⊢
 rw [partsM_cons] at hr hpl ⊢
 rw [List.length_cons] at hpl
 exact valF_valid (by omega) parts_empty hr (by omega)
theorem parts_seven {m : MD} (h : sizedB m = true) : (partsM m).length <= 7 := by
 have hn := (sized_nums h).2.1
 unfold partsM
 rw [List.length_cons]
 split
 ·simp
 ·split
  ·simp
  ·rw [List.length_replicate]; omega
theorem conf_same (m : MD) (s : Int) (l : List CV) : confP m s l = confR m s l := by
 unfold confP confR
 by_cases h : checkF m ≠ 0
 ·rw [if_pos h, if_pos h]
 rw [if_neg h, if_neg h]
 have hz := checkF_zero (Classical.not_not.1 h)
 cases hb : bigB l
 ·rw [if_neg (by decide)]
 rw [if_pos rfl]
 have hv : validV (typeM m) (withC s l) = false := by
  cases hv : validV (typeM m) (withC s l)
  ·rfl
  exfalso
  have hw := (valid_with hv).2.2.2
  have hl : ((withC s l).kids.drop 1).length = l.length := rfl
  rw [hl] at hw
  have := parts_seven hz.2.1
  unfold validV at hv
  simp only [Bool.and_eq_true, decide_eq_true_eq] at hv
  unfold bigB at hb
  rw [parts_few hv.1.2, decide_eq_false (by omega)] at hb
  cases hb
 rw [hv, if_neg (by decide)]
def sameSs (a b : List ByteArray) : Bool := decide (a.length = b.length) && (List.range a.length).all fun i => a[i]!.toList == b[i]!.toList
theorem sameSs_refl (a : List ByteArray) : sameSs a a = true := by unfold sameSs; simp
theorem all_bad' {n i : Nat} {p : Nat -> Bool} (h : i < n) (hb : p i = false) : (List.range n).all p = false := by
 rw [List.all_eq_false]
 exact ⟨i, List.mem_range.2 h, by rw [hb]; decide⟩
theorem all_ok' {n : Nat} {p : Nat -> Bool} (h : ∀ i, i < n -> p i = true) : (List.range n).all p = true := List.all_eq_true.2 fun i hi => h i (List.mem_range.1 hi)
theorem con_equalStr (a b : List ByteArray) (hl : a.length <= 9223372036854775806) : Con Tryz.prog 78 [vss a, vss b] [] fun r _ => r = vb (sameSs a b) := by
 refine Con.intro Tryz.func78 rfl Tryz.ntmps78 Tryz.results78 (by kernel_rfl) (by simp) 0 (by simp) ?_
 unfold sameSs
 by_cases he : a.length = b.length
 case neg =>
  have he' : ((a.length : Int) != (b.length : Int)) = true := bne_iff_ne.2 (by omega)
  rw [decide_eq_false he, Bool.false_and]
  simp only [go_sem, vss, he']
 rw [decide_eq_true he, Bool.true_and]
 have he' : ((a.length : Int) != (b.length : Int)) = false := by rw [he]; simp
 simp only [go_sem, vss, he']
 refine LoopK.intro (fun i : Nat => ⟨26, [(0, vss a), (1, vss b), (12, vi a.length), (13, vi i)], []⟩)
  (fun i => a.length - i) (fun i => i <= a.length /\ ∀ j, j < i -> (a[j]!.toList == b[j]!.toList) = true) 0 ⟨by omega, fun j hj => by omega⟩ ?_ ?_
 ·simp only [go_sem, vss]
  all_goals exact leV_refl _
 rintro i ⟨hi, hb⟩
 by_cases h : i < a.length
 ·have h2 : i < b.length := by omega
  have g1 := getStr h
  have g2 := getStr h2
  have hw : IntKind.i64.wrap (i + 1) = i + 1 := wrap_in (by omega) (by omega)
  simp only [go_sem, vss, h]
  refine DrawK.walk 9 mixed (by kernel_rfl) ?_
  simp only [go_sem, h, h2, g1, g2]
  cases hq : (a[i]!.toList == b[i]!.toList)
  ·rw [all_bad' (p := fun i => a[i]!.toList == b[i]!.toList) h hq]
   simp only [go_sem, Bool.not_false]
  ·simp only [go_sem, Bool.not_true, hw]
   refine roundK.intro (i + 1) ⟨by omega, fun j hj => ?_⟩ (by omega) ?_
   ·by_cases e : j = i
    ·rw [e, hq]
    ·exact hb j (by omega)
   simp only [go_sem]
 ·have hall := all_ok' (n := a.length) (p := fun i => a[i]!.toList == b[i]!.toList) fun j hj => hb j (by omega)
  rw [hall]
  simp only [go_sem, vss, h]
def sameRs (a b : List RD) : Bool := decide (a.length = b.length) && (List.range a.length).all fun i => sameB a[i]! b[i]!
theorem con_equalRules (a b : List RD) (hl : a.length <= 1000000) (hr : ∀ r ∈ a, r.Len) : Con Tryz.prog 80 [.sl 0 14 (a.map vRule), .sl 0 14 (b.map vRule), .fn 81 []] [] fun r _ => r = vb (sameRs a b) := by
 refine Con.intro Tryz.func80 rfl Tryz.ntmps80 Tryz.results80 (by kernel_rfl) (by simp) 0 (by simp) ?_
 unfold sameRs
 by_cases he : a.length = b.length
 case neg =>
  have he' : ((a.length : Int) != (b.length : Int)) = true := bne_iff_ne.2 (by omega)
  rw [decide_eq_false he, Bool.false_and]
  simp only [go_sem, he']
 rw [decide_eq_true he, Bool.true_and]
 have he' : ((a.length : Int) != (b.length : Int)) = false := by rw [he]; simp
 simp only [go_sem, he']
 refine LoopK.intro (fun i : Nat => ⟨32, [(0, .sl 0 14 (a.map vRule)), (1, .sl 0 14 (b.map vRule)), (2, .fn 81 []), (15, .sl 0 14 (a.map vRule)), (16, vi a.length), (17, vi i)], Rk 14 (2 * i)⟩)
  (fun i => a.length - i) (fun i => i <= a.length /\ ∀ j, j < i -> sameB a[j]! b[j]! = true) 0 ⟨by omega, fun j hj => by omega⟩ ?_ ?_
 ·simp only [go_sem]
  all_goals exact leB_self _
 rintro i ⟨hi, hb⟩
 by_cases h : i < a.length
 ·have h2 : i < b.length := by omega
  have g1 := getRule h
  have g2 := getRule h2
  have hw : IntKind.i64.wrap (i + 1) = i + 1 := wrap_in (by omega) (by omega)
  have hB := Rk_len 14 (2 * i)
  have n0 := fun L : List (List AV) => app_at0 (L := L) hB
  have s0 := fun (L : List (List AV)) z => app_set0 (L := L) (z := z) hB
  have n1 := fun L : List (List AV) => app_at (L := L) (i := 1) hB
  have s1 := fun (L : List (List AV)) z => app_setN (L := L) (i := 1) (z := z) hB
  simp only [go_sem, h, h2, g1, g2, hB, n0, s0, n1, s1, List.append_assoc, List.length_append, List.length_cons, List.length_nil]
  refine CallU.free (con_same a[i]! b[i]! (hr _ (mem_bangI h))) (by simp only [go_sem]) (by simp only [go_sem]) ?_
  rintro r bx rfl
  cases hq : sameB a[i]! b[i]!
  ·rw [all_bad' (p := fun i => sameB a[i]! b[i]!) h hq]
   simp only [go_sem]
  ·simp only [go_sem, hw]
   refine roundK.intro (i + 1) ⟨by omega, fun j hj => ?_⟩ (by omega) ?_
   ·by_cases e : j = i
    ·rw [e, hq]
    ·exact hb j (by omega)
   simp only [go_sem, show 2 * (i + 1) = 2 * i + 1 + 1 by omega, Rk_succ2]
   all_goals exact leB_RkA ⟨leC_any _ 14 rfl, leC_any _ 14 rfl, trivial⟩
 ·have hall := all_ok' (n := a.length) (p := fun i => sameB a[i]! b[i]!) fun j hj => hb j (by omega)
  rw [hall]
  simp only [go_sem, h]
def sameMD (a b : MD) : Bool := (a.kind == b.kind) && sameSs a.states b.states && sameSs a.places b.places && sameSs a.letters b.letters && (a.ranks == b.ranks) && (a.levels == b.levels) && (a.age == b.age) && sameRs a.rules b.rules && (cmpV a.start b.start == 0)
theorem con_SameG (a b : MD) (ha : LenM a) (hb : LenM b) : Con Tryz.prog 23 [vM a, vM b] [] fun r _ => r = vb (sameMD a b) := by
 have e1 : ∀ m : MD, vM m = .ag [vi m.kind, vss m.states, vss m.places, vss m.letters, vs 0 m.ranks, vi m.levels, vi m.age, .sl 0 14 (m.rules.map vRule), vi m.start.n, .sl 0 2 (m.start.kids.map vV)] := fun _ => rfl
 have hla := names_lens ha
 have hc := con_compare _ a.start b.start (Nat.le_refl _) ha.start hb.start
 rw [vV_eq, vV_eq] at hc
 rw [e1 a, e1 b]
 refine Con.intro Tryz.func23 rfl Tryz.ntmps23 Tryz.results23 (by kernel_rfl) (by simp) 0 (by simp) ?_
 unfold sameMD
 simp only [go_sem, vss]
 cases h1 : a.kind == b.kind
 ·simp only [go_sem, Bool.false_and]
 simp only [go_sem]
 refine CallU.free (con_equalStr a.states b.states (by omega)) (by simp only [go_sem]) (by simp only [go_sem, vss]) ?_
 rintro r bx rfl
 cases h2 : sameSs a.states b.states
 ·simp only [go_sem, Bool.false_and]
 simp only [go_sem]
 refine CallU.free (con_equalStr a.places b.places (by omega)) (by simp only [go_sem]) (by simp only [go_sem, vss]) ?_
 rintro r bx rfl
 cases h3 : sameSs a.places b.places
 ·simp only [go_sem, Bool.false_and]
 simp only [go_sem]
 refine CallU.free (con_equalStr a.letters b.letters (by omega)) (by simp only [go_sem]) (by simp only [go_sem, vss]) ?_
 rintro r bx rfl
 cases h4 : sameSs a.letters b.letters
 ·simp only [go_sem, Bool.false_and]
 simp only [go_sem]
 refine CallU.free (con_equalInt a.ranks b.ranks (by have := ha.ranks; omega)) (by simp only [go_sem]) (by simp only [go_sem]) ?_
 rintro r bx rfl
 cases h5 : a.ranks == b.ranks
 ·simp only [go_sem, Bool.false_and]
 cases h6 : a.levels == b.levels
 ·simp only [go_sem, h6, Bool.true_and, Bool.false_and]
 cases h7 : a.age == b.age
 ·simp only [go_sem, h6, h7, Bool.true_and, Bool.false_and]
 simp only [go_sem, h6, h7]
 refine CallU.free (con_equalRules a.rules b.rules (by omega) (fun r hr => (ha.rules r hr).len)) (by simp only [go_sem]) (by simp only [go_sem]) ?_
 rintro r bx rfl
 cases h8 : sameRs a.rules b.rules
 ·simp only [go_sem, Bool.false_and]
 simp only [go_sem]
 refine CallU.free hc (by simp only [go_sem]) (by simp only [go_sem]) ?_
 rintro r bx rfl
 simp only [go_sem]
theorem con_TypeG (m : MD) (h : LenM m) : Con Tryz.prog 25 [vM m] [] fun r _ => r = .tup [vT (typeF m), vi (checkF m)] := by
 have e1 : vM m = .ag [vi m.kind, vss m.states, vss m.places, vss m.letters, vs 0 m.ranks, vi m.levels, vi m.age, .sl 0 14 (m.rules.map vRule), vi m.start.n, .sl 0 2 (m.start.kids.map vV)] := rfl
 have cc := con_CheckG m h
 have key : Con Tryz.prog 25 [vM m] [] fun r _ => r = .tup [if checkF m = 0 then vT (typeM m) else .ag [vi 0, vi 0, .nil, .nil], vi (checkF m)] := by
  rw [e1]
  refine Con.intro Tryz.func25 rfl Tryz.ntmps25 Tryz.results25 (by kernel_rfl) (by simp) 0 (by simp) ?_
  simp only [go_sem, vss]
  refine CallU.free cc (by simp only [go_sem]) (by simp only [go_sem, vss]) ?_
  rintro r bx rfl
  by_cases h0 : checkF m = 0
  ·have hz := checkF_zero h0
   have hsz := sized_size h hz.2.1 hz.2.2.1
   have ct := con_typedG m hsz.1
   have e2 := vT_eq (typeM m)
   rw [e2] at ct
   rw [if_pos h0, h0]
   simp only [go_sem]
   refine CallU.free ct (by simp only [go_sem]) (by simp only [go_sem, vss]) ?_
   rintro r bx rfl
   simp only [go_sem, e2]
  ·have hn : (checkF m != 0) = true := bne_iff_ne.2 h0
   rw [if_neg h0]
   simp only [go_sem, hn]
 refine key.weak fun r b hr => ⟨_, rfl, ?_⟩
 subst hr
 unfold typeF
 by_cases h0 : checkF m = 0
 ·rw [if_pos h0, if_pos h0]; exact leV_refl _
 ·rw [if_neg h0, if_neg h0, vT_eq]
  show leV _ (.tup [.ag [vi 0, vi 0, vs 0 [], .sl 0 4 []], vi (checkF m)])
  exact leV_tup ⟨leV_ag ⟨leV_refl _, leV_refl _, leV_nil 0 1, leV_nil 0 4, trivial⟩, leV_refl _, trivial⟩
def stateF (m : MD) (c : CV) : Int × Int := if checkF m = 0 then (if validV (typeM m) c = true then (c.kids[0]!.n, 0) else (0, 17)) else (0, checkF m)
theorem valid_kids {m : MD} {c : CV} (h : validV (typeM m) c = true) : 0 < c.kids.length := by
 unfold validV at h
 rw [Bool.and_eq_true] at h
 have h2 := h.2
 obtain ⟨n, k⟩ := c
 unfold typeM prodT at h2
 rw [oneT] at h2
 have h3 : (n == 0 && decide (k.length = (partsM m).length) && zipT k (partsM m)) = true := h2
 rw [Bool.and_eq_true, Bool.and_eq_true, decide_eq_true_eq] at h3
 have : 1 <= (partsM m).length := by unfold partsM; rw [List.length_cons]; omega
 show 0 < k.length
 omega
theorem con_StateG (m : MD) (c : CV) (h : LenM m) (hc : c.Ok) : Con Tryz.prog 32 [vM m, vV c] [] fun r _ => r = .tup [vi (stateF m c).1, vi (stateF m c).2] := by
 have e1 : vM m = .ag [vi m.kind, vss m.states, vss m.places, vss m.letters, vs 0 m.ranks, vi m.levels, vi m.age, .sl 0 14 (m.rules.map vRule), vi m.start.n, .sl 0 2 (m.start.kids.map vV)] := rfl
 have e0 := vV_eq c
 have cc := con_CheckG m h
 rw [e0, e1]
 refine Con.intro Tryz.func32 rfl Tryz.ntmps32 Tryz.results32 (by kernel_rfl) (by simp) 0 (by simp) ?_
 unfold stateF
 simp only [go_sem, vss]
 refine CallU.free cc (by simp only [go_sem]) (by simp only [go_sem, vss]) ?_
 rintro r bx rfl
 by_cases h0 : checkF m = 0
 ·have hz := checkF_zero h0
  have hsz := sized_size h hz.2.1 hz.2.2.1
  have ct := con_typedG m hsz.1
  have cv := con_oValid (typeM m) c (type_ok hsz.1 hsz.2) hc
  have e2 := vT_eq (typeM m)
  rw [e2] at ct cv
  rw [e0] at cv
  rw [if_pos h0]
  simp only [go_sem, h0]
  refine DrawK.walk 5 mixed (by kernel_rfl) ?_
  simp only [go_sem]
  refine CallY.mk ct (by simp only [go_sem, vss]) (by simp only [go_sem]) (.inl (by simp only [go_sem])) ?_
  simp only [go_sem]
  refine CallY.mk cv (by simp only [go_sem]) (by simp only [go_sem]) (.inl (by simp only [go_sem])) ?_
  cases hv : validV (typeM m) c
  ·rw [if_neg (by decide)]
   simp only [go_sem]
  ·have hk := valid_kids hv
   have hg := getvV hk
   rw [if_pos rfl]
   simp only [go_sem, hk, hg]
 ·have hn : (checkF m != 0) = true := bne_iff_ne.2 h0
  rw [if_neg h0]
  simp only [go_sem, hn]
theorem con_rStateG (m : MD) (c : CV) (h : LenM m) (hc : c.Ok) : Con Tryz.prog 33 [vM m, vV c] [] fun r _ => r = .tup [vi (stateF m c).1, vi (stateF m c).2] := by
 have e1 : vM m = .ag [vi m.kind, vss m.states, vss m.places, vss m.letters, vs 0 m.ranks, vi m.levels, vi m.age, .sl 0 14 (m.rules.map vRule), vi m.start.n, .sl 0 2 (m.start.kids.map vV)] := rfl
 have e0 := vV_eq c
 have cc := con_rCheckG m h
 rw [e0, e1]
 refine Con.intro Tryz.func33 rfl Tryz.ntmps33 Tryz.results33 (by kernel_rfl) (by simp) 0 (by simp) ?_
 unfold stateF
 simp only [go_sem, vss]
 refine CallU.free cc (by simp only [go_sem]) (by simp only [go_sem, vss]) ?_
 rintro r bx rfl
 by_cases h0 : checkF m = 0
 ·have hz := checkF_zero h0
  have hsz := sized_size h hz.2.1 hz.2.2.1
  have ct := con_rtypeOfG m hsz.1 hz.1 (sized_levels hz.2.1)
  have cv := con_rtValid (typeM m) c (type_ok hsz.1 hsz.2) hc
  have e2 := vT_eq (typeM m)
  rw [e2] at ct cv
  rw [e0] at cv
  rw [if_pos h0]
  simp only [go_sem, h0]
  refine DrawK.walk 5 mixed (by kernel_rfl) ?_
  simp only [go_sem]
  refine CallY.mk ct (by simp only [go_sem, vss]) (by simp only [go_sem]) (.inl (by simp only [go_sem])) ?_
  simp only [go_sem]
  refine CallY.mk cv (by simp only [go_sem]) (by simp only [go_sem]) (.inl (by simp only [go_sem])) ?_
  cases hv : validV (typeM m) c
  ·rw [if_neg (by decide)]
   simp only [go_sem]
  ·have hk := valid_kids hv
   have hg := getvV hk
   rw [if_pos rfl]
   simp only [go_sem, hk, hg]
 ·have hn : (checkF m != 0) = true := bne_iff_ne.2 h0
  rw [if_neg h0]
  simp only [go_sem, hn]
def rowsT (t : Nat) (M : List (List Int)) : List AV := M.mapIdx fun i r => .sl (subT t i) 1 (r.map vi)
def vtT (t : Nat) (M : List (List Int)) : AV := .so t (rowsT t M)
attribute [go_sem] vtT
@[go_sem] theorem rowsT_len {t : Nat} {M : List (List Int)} : (rowsT t M).length = M.length := by simp [rowsT]
theorem rowsT_at {t i : Nat} {M : List (List Int)} : (rowsT t M)[i]? = (M[i]?).map fun r => .sl (subT t i) 1 (r.map vi) := by simp [rowsT, List.getElem?_mapIdx]
theorem gettT {t i : Nat} {M : List (List Int)} (h : i < M.length) : (rowsT t M)[i]? = some (.sl (subT t i) 1 (M[i]!.map vi)) := by rw [rowsT_at]; simp [h]
@[go_sem] theorem rowsT_nil {t : Nat} : rowsT t [] = [] := rfl
theorem rowsT_ext {t : Nat} {M : List (List Int)} {l : List AV} (hl : l.length = M.length) (h : ∀ i, i < M.length -> l[i]? = some (.sl (subT t i) 1 (M[i]!.map vi))) : l = rowsT t M := by
 apply List.ext_getElem?
 intro i
 by_cases hi : i < M.length
 ·rw [h i hi, gettT hi]
 ·rw [List.getElem?_eq_none (by omega), List.getElem?_eq_none (by rw [rowsT_len]; omega)]
theorem rowsT_map {t t' : Nat} {M : List (List Int)} {f : AV -> AV} (h : ∀ i r, f (.sl (subT t i) 1 (List.map vi r)) = .sl (subT t' i) 1 (List.map vi r)) : (rowsT t M).map f = rowsT t' M := by
 refine rowsT_ext (by simp [rowsT_len]) fun j hj => ?_
 rw [List.getElem?_map, gettT hj, Option.map_some, h]
theorem rowsT_frz {t : Nat} {M : List (List Int)} {f : AV -> AV} (h : ∀ i r, f (.sl (subT t i) 1 (List.map vi r)) = .sl 0 1 (List.map vi r)) : (rowsT t M).map f = M.map (vs 0) := by
 apply List.ext_getElem?
 intro j
 rw [List.getElem?_map, rowsT_at, List.getElem?_map]
 cases M[j]? with
 | none => rfl
 | some r => simp [h, vs]
@[go_sem] theorem rowsT_ren {t : Nat} {ts : List Nat} {M : List (List Int)} (h : t < 1048576) (h2 : 2 + ts.idxOf t < 1048576) : (rowsT t M).map (renRow ts) = rowsT (2 + ts.idxOf t) M := rowsT_map fun i r => by simp only [renRow, sub_two, if_true, renT_sub h h2]
theorem rowsT_freeze {t : Nat} {p : Nat -> Bool} {M : List (List Int)} (h : p (root t) = true) : (rowsT t M).map (freezeRow p) = M.map (vs 0) := rowsT_frz fun i r => by simp only [freezeRow, sub_two, root_sub, h, and_self, if_true]
@[go_sem] theorem rowsT_freezeT {t : Nat} {M : List (List Int)} : (rowsT t M).map (freezeRow fun _ => true) = M.map (vs 0) := rowsT_freeze rfl
theorem rowsT_killset {t i : Nat} {M : List (List Int)} {r : List Int} : ((rowsT t M).map (killRow (subT t i))).set i (.sl (subT t i) 1 (r.map vi)) = rowsT t (M.set i r) := by
 refine rowsT_ext (by simp [rowsT_len]) fun j hj => ?_
 rw [List.length_set] at hj
 rw [List.getElem?_set]
 by_cases h : i = j
 ·subst h
  rw [if_pos rfl, if_pos (by simp [rowsT_len]; exact hj)]
  simp [hj]
 ·rw [if_neg h, List.getElem?_map, gettT hj, Option.map_some]
  simp only [killRow, sub_sub, true_and, if_neg (Ne.symm h)]
  rw [getElem!_pos M j hj, getElem!_pos (M.set i r) j (by simpa using hj), List.getElem_set_ne h]
theorem rowsLe_nilsT {t n : Nat} : rowsLe (root t) (List.replicate n .nil) (rowsT t (List.replicate n [])) := by
 refine ⟨by simp [rowsT_len], fun j x y hx hy => ?_⟩
 have hj : j < n := by have := (List.getElem?_eq_some_iff.1 hx).1; simpa using this
 rw [gettT (by simpa using hj)] at hy
 simp only [Option.some.injEq] at hy
 simp [hj] at hx
 subst hx; subst hy
 have e : (List.replicate n ([] : List Int))[j]! = [] := by rw [getElem!_pos _ _ (by simpa using hj)]; simp
 rw [e]
 exact ⟨rfl, .inr (.inr ⟨rfl, subT t j, 1, by have := sub_big t j; omega, root_sub t j, rfl⟩)⟩
theorem rowsT_killset2 {t i : Nat} {M : List (List Int)} {r : List Int} (h : t < 1048576) : ((rowsT t M).map (killRow t ∘ killRow (subT t i))).set i (.sl (subT t i) 1 (r.map vi)) = rowsT t (M.set i r) := by
 have e : (rowsT t M).map (killRow t ∘ killRow (subT t i)) = (rowsT t M).map (killRow (subT t i)) := by
  apply List.ext_getElem?
  intro j
  simp only [List.getElem?_map, rowsT_at, Option.map_map]
  cases M[j]? with
  | none => rfl
  | some r =>
   simp only [Option.map_some, Function.comp, Option.some.injEq]
   by_cases hji : j = i
   ·subst hji; simp [killRow]
   ·simp [killRow, sub_sub, hji, sub_lit h]
 rw [e, rowsT_killset]
def chgOf (rs : List RD) (p : Nat) : List Int := rs.map fun r => r.give[p]! - r.need[p]!
def rowsF (np : Nat) (rs : List RD) (f : Nat -> Nat) : List (List Int) := (List.range np).map fun p => chgOf (rs.take (f p)) p
theorem rowsF_len {np : Nat} {rs : List RD} {f : Nat -> Nat} : (rowsF np rs f).length = np := by simp [rowsF]
theorem rowsF_at {np : Nat} {rs : List RD} {f : Nat -> Nat} {p : Nat} (h : p < np) : (rowsF np rs f)[p]! = chgOf (rs.take (f p)) p := by
 rw [getElem!_pos _ p (by rw [rowsF_len]; exact h)]; simp [rowsF]
theorem rowsF_congr {np : Nat} {rs : List RD} {f g : Nat -> Nat} (h : ∀ p, p < np -> f p = g p) : rowsF np rs f = rowsF np rs g := by
 unfold rowsF
 refine List.map_congr_left fun p hp => ?_
 rw [h p (List.mem_range.1 hp)]
theorem rowsF_set {np : Nat} {rs : List RD} {f g : Nat -> Nat} {p : Nat} (hp : p < np) (h : ∀ q, q < np -> g q = if q = p then f p + 1 else f q) : (rowsF np rs f).set p (chgOf (rs.take (f p + 1)) p) = rowsF np rs g := by
 refine List.ext_getElem (by simp [rowsF]) fun q h1 h2 => ?_
 have hq : q < np := by rw [List.length_set, rowsF_len] at h1; exact h1
 have a2 : (rowsF np rs g)[q] = chgOf (rs.take (g q)) q := by rw [<- getElem!_pos _ q h2, rowsF_at hq]
 have a1 : (rowsF np rs f)[q]'(by rw [rowsF_len]; exact hq) = chgOf (rs.take (f q)) q := by rw [<- getElem!_pos _ q (by rw [rowsF_len]; exact hq), rowsF_at hq]
 rw [List.getElem_set, a2]
 by_cases e : p = q
 ·subst e
  rw [if_pos rfl, h p hp, if_pos rfl]
 ·rw [if_neg e, a1, h q hq, if_neg (fun h => e h.symm)]
theorem chgOf_next {rs : List RD} {k p : Nat} (h : k < rs.length) : chgOf (rs.take (k + 1)) p = chgOf (rs.take k) p ++ [rs[k]!.give[p]! - rs[k]!.need[p]!] := by
 unfold chgOf
 rw [List.take_add_one, List.getElem?_eq_getElem h, List.map_append, getElem!_pos rs k h]; rfl
def matL (m : MD) : List (List Int) := rowsF m.places.length m.rules fun _ => m.rules.length
def matF (m : MD) : List (List Int) × Int := if checkF m ≠ 0 then ([], checkF m) else if (m.kind == 1 && m.rules.all stillB && decide (0 < m.rules.length)) = true then (matL m, 0) else ([], 15)
theorem check_small {m : MD} (h0 : checkF m = 0) (hk : m.kind = 1) : ∀ r ∈ m.rules, SmallR m.places.length r := fun r hr => by
 have hz := (checkF_zero h0).2.2.2.2.1 r hr
 unfold rightR fitsR at hz
 rw [if_pos hk] at hz
 unfold changesB smallB betweenB at hz
 simp only [Bool.and_eq_true, decide_eq_true_eq, List.all_eq_true] at hz
 exact ⟨hz.1.2.1.1.1.1, hz.1.2.1.1.1.2, hz.1.2.1.1.2, hz.1.2.1.2⟩
def vmT (M : List (List Int)) : AV := .sl 0 1 (M.map (vs 0))
def outF (n i k p : Nat) : Nat := if p < i then n else if p = i then k else 0
theorem outF_step {n i k : Nat} : ∀ q, outF n i (k + 1) q = if q = i then outF n i k i + 1 else outF n i k q := fun q => by
 unfold outF
 by_cases e : q = i
 ·subst e; simp
 ·by_cases h : q < i <;> simp [e, h]
theorem outF_next {n i : Nat} : ∀ q, outF n i n q = outF n (i + 1) 0 q := fun q => by
 unfold outF
 by_cases h : q < i
 ·rw [if_pos h, if_pos (by omega)]
 ·rw [if_neg h]
  by_cases e : q = i
  ·rw [if_pos e, if_pos (by omega)]
  ·rw [if_neg e, if_neg (by omega)]; split <;> rfl
theorem rowsF_zero {np : Nat} {rs : List RD} {f : Nat -> Nat} (h : ∀ p, f p = 0) : rowsF np rs f = List.replicate np [] := by
 unfold rowsF
 refine List.eq_replicate_iff.2 ⟨by simp, fun x hx => ?_⟩
 obtain ⟨p, _, rfl⟩ := List.mem_map.1 hx
 rw [h p]; rfl
@[go_sem] theorem mapB_putL_Rk {t k c n : Nat} {y : AV} : mapB (putLeaf t k y) (Rk c n) = Rk c n := mapB_Rk rfl c n
theorem con_mplainG (m : MD) (hl : m.rules.length <= 9223372036854775806) : Con Tryz.prog 86 [vM m] [] fun x _ => x = vb (m.kind == 1 && m.rules.all stillB) := by
 by_cases hk : m.kind = 1
 ·have hkb : (m.kind == 1) = true := beq_iff_eq.2 hk
  rw [hkb, Bool.true_and]
  exact con_mplain m hk hl
 have hkb : (m.kind == 1) = false := beq_eq_false_iff_ne.2 hk
 rw [hkb, Bool.false_and]
 refine Con.intro Tryz.func86 rfl Tryz.ntmps86 Tryz.results86 (by kernel_rfl) (by simp) 1 (by simp) ?_
 simp only [go_sem, hkb]
theorem con_MatrixP (m : MD) (h : LenM m) : Con Tryz.prog 28 [vM m] [] fun r _ => r = .tup [vmT (matF m).1, vi (matF m).2] := by
 have key : Con Tryz.prog 28 [vM m] [] fun r _ => leV (r.freeze fun _ => true) (.tup [vmT (matF m).1, vi (matF m).2]) := by
  have e1 : vM m = .ag [vi m.kind, vss m.states, vss m.places, vss m.letters, vs 0 m.ranks, vi m.levels, vi m.age, .sl 0 14 (m.rules.map vRule), vi m.start.n, .sl 0 2 (m.start.kids.map vV)] := rfl
  have cc := con_CheckG m h
  have hl := names_lens h
  rw [e1]
  refine Con.intro Tryz.func28 rfl Tryz.ntmps28 Tryz.results28 (by kernel_rfl) (by simp) 0 (by simp) ?_
  unfold matF
  simp only [go_sem, vss]
  refine CallU.free cc (by simp only [go_sem]) (by simp only [go_sem, vss]) ?_
  rintro r bx rfl
  by_cases h0 : checkF m = 0
  case neg =>
   have hn : (checkF m != 0) = true := bne_iff_ne.2 h0
   rw [if_pos h0]
   simp only [go_sem, hn]
   exact leV_tup ⟨leV_nil 0 1, leV_refl _, trivial⟩
  have hn : (checkF m != 0) = false := by rw [h0]; rfl
  rw [if_neg (fun h => h h0)]
  simp only [go_sem, hn]
  refine CallU.free (con_mplainG m (by omega)) (by simp only [go_sem]) (by simp only [go_sem, vss]) ?_
  rintro r bx rfl
  cases hst' : m.kind == 1 && m.rules.all stillB
  ·rw [Bool.false_and, if_neg (by decide)]
   simp only [go_sem]
   exact leV_tup ⟨leV_nil 0 1, leV_refl _, trivial⟩
  obtain ⟨hk, hst⟩ : m.kind = 1 /\ m.rules.all stillB = true := by
   rw [Bool.and_eq_true, beq_iff_eq] at hst'
   exact hst'
  rw [Bool.true_and]
  by_cases hr0 : 0 < m.rules.length
  case neg =>
   have hz : m.rules.length = 0 := by omega
   rw [decide_eq_false hr0, if_neg (by decide)]
   simp only [go_sem, hz]
   exact leV_tup ⟨leV_nil 0 1, leV_refl _, trivial⟩
  have hrb : ((m.rules.length : Int) == 0) = false := beq_eq_false_iff_ne.2 (by omega)
  rw [decide_eq_true hr0, if_pos rfl]
  have hsm := check_small h0 hk
  have hpl : m.places.length <= 6 := by
   have := (sized_lim (checkF_zero h0).2.1)
   have h2 := (checkF_zero h0).2.1
   unfold sizedB betweenB at h2
   simp only [Bool.and_eq_true, decide_eq_true_eq] at h2
   have h3 := h2.1.1.1.2.2
   rw [hk] at h3
   have : lim 1 1 = 6 := by decide
   omega
  simp only [go_sem, hrb, List.length_map]
  refine ⟨by omega, by omega, by omega, ?_⟩
  obtain ⟨rs, ers⟩ : ∃ rs, rs = m.rules := ⟨_, rfl⟩
  obtain ⟨np, enp⟩ : ∃ np, np = m.places.length := ⟨_, rfl⟩
  obtain ⟨n, en⟩ : ∃ n, n = rs.length := ⟨_, rfl⟩
  have hmat : matL m = rowsF np rs (outF n np 0) := by
   unfold matL
   rw [ers, enp, en, ers]
   exact rowsF_congr fun p hp => by unfold outF; rw [if_pos hp]
  rw [hmat]
  rw [<- ers, <- enp] at hsm ⊢
  rw [<- ers] at hr0 hrb
  rw [<- enp] at hpl
  have hn12 : n <= 1000000 := by rw [en, ers]; omega
  have hz0 : List.replicate np ([] : List Int) = rowsF np rs (outF n 0 0) := (rowsF_zero fun p => by unfold outF; rw [if_neg (by omega)]; split <;> rfl).symm
  refine LoopK.intro (fun i : Nat => ⟨62, [(1, .pb 0 0), (5, vtT 1728 (rowsF np rs (outF n i 0))), (28, vi np), (29, vi i)], [[vi m.kind, vss m.states, vss m.places, vss m.letters, vs 0 m.ranks, vi m.levels, vi m.age, .sl 0 14 (rs.map vRule), vi m.start.n, .sl 0 2 (m.start.kids.map vV)]] ++ Rk 14 (i * n)⟩)
   (fun i => np - i) (fun i => i <= np) 0 (by omega) ?_ ?_
  ·simp only [go_sem, vss, <- hz0, Nat.zero_mul, vtT]
   rw [List.length_replicate]
   exact ⟨⟨leV_slso (by omega) rowsLe_nilsT, leV_refl _⟩, leB_self []⟩
  rintro i hi
  by_cases hin : i < np
  case neg =>
   have ei : i = np := by omega
   rw [ei]
   have hll : ¬ np < np := by omega
   simp only [go_sem, hll]
   show leV (.tup [.sl 0 1 ((rowsT 2 (rowsF np rs (outF n np 0))).map (freezeRow fun _ => true)), vi 0]) _
   rw [rowsT_freezeT]
   exact leV_refl _
  have hw : IntKind.i64.wrap (i + 1) = i + 1 := wrap_in (by omega) (by omega)
  simp only [go_sem, hin, vss]
  refine LoopK.intro (fun k : Nat => ⟨62, [(1, .pb 0 0), (5, vtT 1728 (rowsF np rs (outF n i k))), (6, vi i), (28, vi np), (29, vi i), (33, .sl 0 14 (rs.map vRule)), (34, vi n), (35, vi k)], [[vi m.kind, vss m.states, vss m.places, vss m.letters, vs 0 m.ranks, vi m.levels, vi m.age, .sl 0 14 (rs.map vRule), vi m.start.n, .sl 0 2 (m.start.kids.map vV)]] ++ Rk 14 (i * n + k)⟩)
   (fun k => n - k) (fun k => k <= n) 0 (by omega) ?_ ?_
  ·simp only [go_sem, vss, en]
   all_goals exact leB_self _
  rintro k hk
  have hB := Rk_len 14 (i * n + k)
  have n0 := fun L : List (List AV) => app_at0 (L := L) hB
  have s0 := fun (L : List (List AV)) z => app_set0 (L := L) (z := z) hB
  by_cases hkn : k < n
  ·have hkr : k < rs.length := by omega
   have hg := getRule hkr
   have hwk : IntKind.i64.wrap (k + 1) = k + 1 := wrap_in (by omega) (by omega)
   have hsr := hsm _ (mem_bangI hkr)
   have l3 : i < rs[k]!.need.length := by rw [hsr.1]; exact hin
   have l4 : i < rs[k]!.give.length := by rw [hsr.2.1]; exact hin
   have g3 := getv l3
   have g4 := getv l4
   have b3 := hsr.2.2.1 _ (mem_bangI l3)
   have b4 := hsr.2.2.2 _ (mem_bangI l4)
   have hws : IntKind.i64.wrap (rs[k]!.give[i]! - rs[k]!.need[i]!) = rs[k]!.give[i]! - rs[k]!.need[i]! := wrap_in (by omega) (by omega)
   have hrl : i < (rowsF np rs (outF n i k)).length := by rw [rowsF_len]; exact hin
   have hgt := gettT (t := 1728) hrl
   have hoi : outF n i k i = k := by unfold outF; rw [if_neg (by omega), if_pos rfl]
   rw [rowsF_at hin, hoi] at hgt
   have hset := rowsF_set (rs := rs) (f := outF n i k) (g := outF n i (k + 1)) hin (fun q _ => outF_step q)
   rw [hoi] at hset
   have hnx := chgOf_next (p := i) hkr
   simp only [go_sem, vss, hkn, hkr, hg, hB, n0, s0]
   refine DrawK.front [0, 1] 18 mixed (by kernel_rfl) ?_
   simp only [go_sem, n0, hrl, hgt, l3, l4, g3, g4, hws]
   have ec : (List.map vi (chgOf (List.take k rs) i) ++ [AV.sc (Value.int IntKind.i64 (rs[k]!.give[i]! - rs[k]!.need[i]!))]) = (chgOf (List.take (k + 1) rs) i).map vi := by rw [hnx, List.map_append]; rfl
   have hcl : (chgOf (List.take k rs) i).length <= 1000000 := by unfold chgOf; rw [List.length_map, List.length_take]; omega
   refine ⟨by simp only [roomFor]; omega, roundK.intro (k + 1) (by omega) (by omega) ?_⟩
   rw [ec, rowsT_killset2 (t := 1728) (by omega), hset]
   simp only [go_sem, hwk, <- Nat.add_assoc, Rk_succ]
   all_goals exact leB_RkA ⟨leC_any _ 14 rfl, trivial⟩
  ·have ek : k = n := by omega
   have eo : rowsF np rs (outF n i n) = rowsF np rs (outF n (i + 1) 0) := rowsF_congr fun p _ => outF_next p
   rw [ek, eo]
   have hll : ¬ n < n := by omega
   simp only [go_sem, vss, hll, hw]
   refine roundK.intro (i + 1) (by omega) (by omega) ?_
   simp only [go_sem, Nat.succ_mul]
 exact (Con.freezeR (fun _ => true) key).weak fun r b ⟨r0, h0, h1⟩ => by
  subst h1
  exact ⟨_, rfl, h0⟩
def refF (i k p : Nat) : Nat := if p < k then i + 1 else i
theorem refF_step {i k : Nat} : ∀ q, refF i (k + 1) q = if q = k then refF i k k + 1 else refF i k q := fun q => by
 unfold refF
 by_cases e : q = k
 ·subst e; simp
 ·by_cases h : q < k
  ·rw [if_pos (by omega), if_neg e, if_pos h]
  ·rw [if_neg (by omega), if_neg e, if_neg h]
theorem con_rMatrixG (m : MD) (h : LenM m) : Con Tryz.prog 29 [vM m] [] fun r _ => r = .tup [vmT (matF m).1, vi (matF m).2] := by
 have key : Con Tryz.prog 29 [vM m] [] fun r _ => leV (r.freeze fun _ => true) (.tup [vmT (matF m).1, vi (matF m).2]) := by
  have e1 : vM m = .ag [vi m.kind, vss m.states, vss m.places, vss m.letters, vs 0 m.ranks, vi m.levels, vi m.age, .sl 0 14 (m.rules.map vRule), vi m.start.n, .sl 0 2 (m.start.kids.map vV)] := rfl
  have cc := con_rCheckG m h
  have hl := names_lens h
  rw [e1]
  refine Con.intro Tryz.func29 rfl Tryz.ntmps29 Tryz.results29 (by kernel_rfl) (by simp) 0 (by simp) ?_
  unfold matF
  simp only [go_sem, vss]
  refine CallU.free cc (by simp only [go_sem]) (by simp only [go_sem, vss]) ?_
  rintro r bx rfl
  by_cases h0 : checkF m = 0
  case neg =>
   have hn : (checkF m != 0) = true := bne_iff_ne.2 h0
   rw [if_pos h0]
   simp only [go_sem, hn]
   exact leV_tup ⟨leV_nil 0 1, leV_refl _, trivial⟩
  have hn : (checkF m != 0) = false := by rw [h0]; rfl
  rw [if_neg (fun h => h h0)]
  by_cases hk : m.kind = 1
  case neg =>
   have hkb : (m.kind != 1) = true := bne_iff_ne.2 hk
   rw [show (m.kind == 1) = false from beq_eq_false_iff_ne.2 hk, Bool.false_and, Bool.false_and, if_neg (by decide)]
   simp only [go_sem, hn, hkb]
   exact leV_tup ⟨leV_nil 0 1, leV_refl _, trivial⟩
  have hkb : (m.kind != 1) = false := by rw [hk]; rfl
  rw [show (m.kind == 1) = true from beq_iff_eq.2 hk, Bool.true_and]
  by_cases hr0 : 0 < m.rules.length
  case neg =>
   have hz : m.rules.length = 0 := by omega
   rw [decide_eq_false hr0, Bool.and_false, if_neg (by decide)]
   simp only [go_sem, hn, hkb, hz, List.length_map]
   exact leV_tup ⟨leV_nil 0 1, leV_refl _, trivial⟩
  have hrb : ((m.rules.length : Int) == 0) = false := beq_eq_false_iff_ne.2 (by omega)
  rw [decide_eq_true hr0, Bool.and_true]
  have hsm := check_small h0 hk
  have hpl : m.places.length <= 6 := by
   have h2 := (checkF_zero h0).2.1
   unfold sizedB betweenB at h2
   simp only [Bool.and_eq_true, decide_eq_true_eq] at h2
   have h3 := h2.1.1.1.2.2
   rw [hk] at h3
   have : lim 1 1 = 6 := by decide
   omega
  simp only [go_sem, hn, hkb, hrb, List.length_map]
  refine ⟨by omega, by omega, by omega, ?_⟩
  obtain ⟨rs, ers⟩ : ∃ rs, rs = m.rules := ⟨_, rfl⟩
  obtain ⟨np, enp⟩ : ∃ np, np = m.places.length := ⟨_, rfl⟩
  obtain ⟨n, en⟩ : ∃ n, n = rs.length := ⟨_, rfl⟩
  have hmat : matL m = rowsF np rs (refF n 0) := by
   unfold matL
   rw [ers, enp, en, ers]
   exact rowsF_congr fun p hp => by unfold refF; rw [if_neg (by omega)]
  rw [hmat]
  rw [<- ers, <- enp] at hsm ⊢
  rw [<- ers] at hr0 hrb
  rw [<- enp] at hpl
  have hn12 : n <= 1000000 := by rw [en, ers]; omega
  have hz0 : List.replicate np ([] : List Int) = rowsF np rs (refF 0 0) := (rowsF_zero fun p => by unfold refF; rw [if_neg (by omega)]).symm
  refine LoopK.intro (fun i : Nat => ⟨70, [(1, .pb 0 0), (5, vtT 1728 (rowsF np rs (refF i 0))), (6, vi i)], [[vi m.kind, vss m.states, vss m.places, vss m.letters, vs 0 m.ranks, vi m.levels, vi m.age, .sl 0 14 (rs.map vRule), vi m.start.n, .sl 0 2 (m.start.kids.map vV)]] ++ Rk 14 i⟩)
   (fun i => n - i) (fun i => i <= n /\ ∀ j, j < i -> stillB rs[j]! = true) 0 ⟨by omega, fun j hj => by omega⟩ ?_ ?_
  ·simp only [go_sem, vss, <- hz0, vtT]
   exact ⟨leV_slso (by omega) rowsLe_nilsT, leB_self []⟩
  rintro i ⟨hi, hjs⟩
  have hB := Rk_len 14 i
  have n0 := fun L : List (List AV) => app_at0 (L := L) hB
  have s0 := fun (L : List (List AV)) z => app_set0 (L := L) (z := z) hB
  by_cases hin : i < n
  case neg =>
   have ei : i = n := by omega
   have hall : rs.all stillB = true := by
    rw [List.all_eq_true]
    intro x hx
    obtain ⟨j, hj, rfl⟩ := List.getElem_of_mem hx
    have := hjs j (by omega)
    rw [getElem!_pos rs j hj] at this
    exact this
   rw [hall, if_pos rfl, ei]
   have hll : ¬ n < rs.length := by omega
   simp only [go_sem, vss, hll, List.length_map]
   show leV (.tup [.sl 0 1 ((rowsT 2 (rowsF np rs (refF n 0))).map (freezeRow fun _ => true)), vi 0]) _
   rw [rowsT_freezeT]
   exact leV_refl _
  have hir : i < rs.length := by omega
  have hg := getRule hir
  have hw : IntKind.i64.wrap (i + 1) = i + 1 := wrap_in (by omega) (by omega)
  simp only [go_sem, vss, hir, hg, hB, n0, s0]
  by_cases hm : 0 < rs[i]!.move.length
  ·have hall : rs.all stillB = false := by
    rw [List.all_eq_false]
    refine ⟨rs[i]!, mem_bangI hir, ?_⟩
    unfold stillB
    rw [beq_eq_false_iff_ne.2 (by omega)]; decide
   rw [hall, if_neg (by decide)]
   simp only [go_sem, hm]
   exact leV_tup ⟨leV_nil 0 1, leV_refl _, trivial⟩
  simp only [go_sem, hm]
  have hsr := hsm _ (mem_bangI hir)
  refine LoopK.intro (fun k : Nat => ⟨70, [(1, .pb 0 0), (5, vtT 1728 (rowsF np rs (refF i k))), (6, vi i), (7, .pb (i + 1) 0), (8, vi k)], [vi m.kind, vss m.states, vss m.places, vss m.letters, vs 0 m.ranks, vi m.levels, vi m.age, .sl 0 14 (rs.map vRule), vi m.start.n, .sl 0 2 (m.start.kids.map vV)] :: (Rk 14 i ++ [[vStr rs[i]!.name, vi rs[i]!.src, vi rs[i]!.dst, vs 0 rs[i]!.need, vs 0 rs[i]!.give, vs 0 rs[i]!.move, vi rs[i]!.channel, vi rs[i]!.act, vi rs[i]!.letter, vs 0 rs[i]!.path, vs 0 rs[i]!.next, .sl 0 3 (rs[i]!.takes.map vTake), vs 0 rs[i]!.makes, vi rs[i]!.second]])⟩)
   (fun k => np - k) (fun k => k <= np) 0 (by omega) ?_ ?_
  ·simp only [go_sem, vss]
   all_goals exact leB_self _
  rintro k hk
  by_cases hkn : k < np
  ·have hwk : IntKind.i64.wrap (k + 1) = k + 1 := wrap_in (by omega) (by omega)
   have l3 : k < rs[i]!.need.length := by rw [hsr.1]; exact hkn
   have l4 : k < rs[i]!.give.length := by rw [hsr.2.1]; exact hkn
   have g3 := getv l3
   have g4 := getv l4
   have b3 := hsr.2.2.1 _ (mem_bangI l3)
   have b4 := hsr.2.2.2 _ (mem_bangI l4)
   have hws : IntKind.i64.wrap (rs[i]!.give[k]! - rs[i]!.need[k]!) = rs[i]!.give[k]! - rs[i]!.need[k]! := wrap_in (by omega) (by omega)
   have hrl : k < (rowsF np rs (refF i k)).length := by rw [rowsF_len]; exact hkn
   have hgt := gettT (t := 1728) hrl
   have hoi : refF i k k = i := by unfold refF; rw [if_neg (by omega)]
   rw [rowsF_at hkn, hoi] at hgt
   have hset := rowsF_set (rs := rs) (f := refF i k) (g := refF i (k + 1)) hkn (fun q _ => refF_step q)
   rw [hoi] at hset
   have hnx := chgOf_next (p := k) hir
   have hrw := rowsF_len (np := np) (rs := rs) (f := refF i k)
   simp only [go_sem, vss, hrw, hkn]
   refine DrawK.front [0, 1] 18 mixed (by kernel_rfl) ?_
   simp only [go_sem, n0, hrl, hgt, l3, l4, g3, g4, hws]
   have ec : (List.map vi (chgOf (List.take i rs) k) ++ [AV.sc (Value.int IntKind.i64 (rs[i]!.give[k]! - rs[i]!.need[k]!))]) = (chgOf (List.take (i + 1) rs) k).map vi := by rw [hnx, List.map_append]; rfl
   have hcl : (chgOf (List.take i rs) k).length <= 1000000 := by unfold chgOf; rw [List.length_map, List.length_take]; omega
   refine ⟨by simp only [roomFor]; omega, roundK.intro (k + 1) (by omega) (by omega) ?_⟩
   rw [ec, rowsT_killset2 (t := 1728) (by omega), hset]
   simp only [go_sem, hwk]
  ·have ek : k = np := by omega
   have eo : rowsF np rs (refF i np) = rowsF np rs (refF (i + 1) 0) := rowsF_congr fun p hp => by
    unfold refF; rw [if_pos hp, if_neg (by omega)]
   have hstl : stillB rs[i]! = true := by unfold stillB; rw [beq_iff_eq]; omega
   rw [ek, eo]
   have hrw := rowsF_len (np := np) (rs := rs) (f := refF (i + 1) 0)
   have hll : ¬ np < np := by omega
   simp only [go_sem, vss, hrw, hll, hw]
   refine roundK.intro (i + 1) ⟨by omega, fun j hj => ?_⟩ (by omega) ?_
   ·by_cases e : j = i
    ·rw [e, hstl]
    ·exact hjs j (by omega)
   simp only [go_sem, Rk_succ]
   all_goals exact leB_RkA ⟨leC_any _ 14 rfl, trivial⟩
 exact (Con.freezeR (fun _ => true) key).weak fun r b ⟨r0, h0, h1⟩ => by
  subst h1
  exact ⟨_, rfl, h0⟩
def upR : RD := ⟨⟨#[117, 112]⟩, 0, 1, [1], [3], [], 0, 0, 0, [], [], [], [], 0⟩
def upM : MD := { kind := 1, states := [⟨#[97]⟩, ⟨#[98]⟩], places := [⟨#[120]⟩], rules := [upR], start := cfgC 0 [2] }
theorem up_start : (cfgC 0 [2]).Ok := .mk 0 _ (by decide) fun x hx => by
 have : x = .mk 0 [] \/ x = .mk 2 [] := by simpa using hx
 rcases this with rfl | rfl
 ·exact .mk 0 [] (by simp) (fun x hx => by cases hx)
 ·exact .mk 2 [] (by simp) (fun x hx => by cases hx)
theorem up_len : LenM upM := ⟨by decide +kernel, by decide +kernel, by decide, fun r hr => by
 have : r = upR := by simpa [upM] using hr
 subst this
 exact ⟨⟨by decide, by decide, by decide, by decide, by decide, by decide, by decide⟩, by decide, by decide⟩, up_start⟩
theorem up_check : checkF upM = 0 := by decide +kernel
theorem up_type : (typeM upM).parts.length = 2 := by decide +kernel
theorem up_state : stateF upM (cfgC 0 [2]) = (0, 0) := by decide +kernel
theorem up_conf : confP upM 1 [.mk 7 []] = (cfgC 1 [7], 0) := by kernel_rfl
theorem up_mat : matF upM = ([[2]], 0) := by decide +kernel
theorem up_valid : confG upM (cfgC 1 [7]) = true := by decide +kernel
theorem up_same : sameMD upM upM = true := by decide +kernel
theorem up_typeF : vT (typeF upM) = .ag [vi (typeM upM).kind, vi (typeM upM).size, vs 0 (typeM upM).ranks, .sl 0 4 (vTs (typeM upM).parts)] := by
 unfold typeF
 rw [up_check, if_pos rfl]
 cases typeM upM; rfl
theorem vTs_len : ∀ l : List TD, (vTs l).length = l.length
 | [] => rfl
 | x :: l => by rw [vTs, List.length_cons, List.length_cons, vTs_len l]
theorem up_thin : leV (.ag [vi 1, vss upM.states, vss upM.places, .nil, .nil, vi 0, vi 0, .sl 0 14 [ruleN upR], vi 0, .sl 0 2 [kidN 0, kidN 2]]) (vM upM) := by
 have hg : leV (.sl 0 14 [ruleN upR]) (.sl 0 14 (upM.rules.map vRule)) := leV_slE (by decide) (fun y hy => by obtain ⟨x, _, rfl⟩ := List.mem_map.1 hy; rfl) (rules_pw [upR] fun r hr => by
   have : r = upR := by simpa using hr
   subst this; rfl)
 have hc := cfg_le 0 [2]
 rw [vV_eq] at hc
 exact leV_ag ⟨leV_refl _, leV_refl _, leV_refl _, leV_nil 0 1, leV_nil 0 1, leV_refl _, leV_refl _, hg, leV_refl _, leV_slE (by decide) (fun y hy => by
  obtain ⟨x, _, rfl⟩ := List.mem_map.1 hy
  rw [vV_eq]; rfl) (kids_pw [0, 2]), trivial⟩
theorem con_sane15 : Con Tryz.prog 13 [] [] fun r _ => r = vb true := by
 refine Con.intro Tryz.func13 rfl Tryz.ntmps13 Tryz.results13 (by kernel_rfl) (by simp) 0 (by simp) ?_
 have hs7 : ∀ x ∈ [CV.mk 7 []], x.Slim := fun x hx => by
  have : x = .mk 7 [] := by simpa using hx
  subst this; exact CV.Slim.leaf 7
 have hok7 : (cfgC 1 [7]).Ok := .mk 0 _ (by decide) fun x hx => by
  have : x = .mk 1 [] \/ x = .mk 7 [] := by simpa using hx
  rcases this with rfl | rfl
  ·exact .mk 1 [] (by simp) (fun x hx => by cases hx)
  ·exact .mk 7 [] (by simp) (fun x hx => by cases hx)
 have hT := con_TypeG upM up_len
 rw [up_check, up_typeF] at hT
 have hS := con_StateG upM (cfgC 0 [2]) up_len up_start
 rw [up_state] at hS
 have hC := con_ConfigP upM 1 [.mk 7 []] up_len (by decide) hs7
 rw [up_conf] at hC
 have e7 : ownV 0 (cfgC 1 [7]) = .ag [vi 0, .sl 0 2 [.ag [vi 1, .sl 0 2 []], .ag [vi 7, .sl 0 2 []]]] := by
  show AV.ag [vi 0, .sl 0 2 [vV (.mk 1 []), vV (.mk 7 [])]] = _
  rw [vV_eq, vV_eq]; rfl
 rw [e7] at hC
 have hX := con_MatrixP upM up_len
 rw [up_mat] at hX
 have hK := con_CheckG upM up_len
 rw [up_check] at hK
 have hV := con_ValidG upM (cfgC 1 [7]) up_len hok7
 rw [up_valid] at hV
 have hE := con_SameG upM upM up_len up_len
 rw [up_same] at hE
 have hpl := up_type
 have hvl := vTs_len (typeM upM).parts
 rw [hpl] at hvl
 generalize vTs (typeM upM).parts = ps at hT hvl
 generalize (typeM upM).kind = tk at hT
 generalize (typeM upM).size = ts at hT
 generalize (typeM upM).ranks = tr at hT
 generalize eT : AV.ag [vi 1, vss upM.states, vss upM.places, .nil, .nil, vi 0, vi 0, .sl 0 14 [ruleN upR], vi 0, .sl 0 2 [kidN 0, kidN 2]] = thinA
 have hth := up_thin
 rw [eT] at hth
 simp only [go_sem]
 refine CallU.freeze (hT.leA (args' := [thinA]) ⟨hth, trivial⟩) (by simp only [go_sem]) (by rw [<- eT]; simp only [go_sem, vss, upM, upR, List.map_cons, List.map_nil]) ?_
 rintro r bx rfl
 simp only [go_sem]
 refine CallU.freeze (hS.leA (args' := [thinA, cfgN 0 0 [2]]) ⟨hth, cfg_le 0 [2], trivial⟩) (by simp only [go_sem]) (by rw [<- eT]; simp only [go_sem, vss, upM, upR, List.map_cons, List.map_nil]) ?_
 rintro r bx rfl
 simp only [go_sem]
 have h7 : leV (.sl 0 2 [kidN 7]) (vrow [.mk 7 []]) := leV_slE (by decide) (fun y hy => by
  obtain ⟨x, _, rfl⟩ := List.mem_map.1 hy
  rw [vV_eq]; rfl) (kids_pw [7])
 refine CallU.freeze (hC.leA (args' := [thinA, vi 1, .sl 0 2 [kidN 7]]) ⟨hth, leV_refl _, h7, trivial⟩) (by simp only [go_sem]) (by rw [<- eT]; simp only [go_sem, vss, upM, upR, List.map_cons, List.map_nil]) ?_
 rintro r bx rfl
 simp only [go_sem]
 refine CallU.freeze (hX.leA (args' := [thinA]) ⟨hth, trivial⟩) (by simp only [go_sem]) (by rw [<- eT]; simp only [go_sem, vss, upM, upR, List.map_cons, List.map_nil]) ?_
 rintro r bx rfl
 simp only [go_sem, vmT, List.map_cons, List.map_nil]
 refine CallU.freeze (hK.leA (args' := [thinA]) ⟨hth, trivial⟩) (by simp only [go_sem]) (by rw [<- eT]; simp only [go_sem, vss, upM, upR, List.map_cons, List.map_nil]) ?_
 rintro r bx rfl
 simp only [go_sem, hvl]
 refine CallU.freeze (hV.leA (args' := [thinA, .ag [vi 0, .sl 0 2 [.ag [vi 1, .sl 0 2 []], .ag [vi 7, .sl 0 2 []]]]]) ⟨hth, (by rw [<- e7, ownV_zero]; exact leV_refl _), trivial⟩) (by simp only [go_sem]) (by rw [<- eT]; simp only [go_sem, vss, upM, upR, List.map_cons, List.map_nil]) ?_
 rintro r bx rfl
 simp only [go_sem]
 refine CallU.freeze (hE.leA (args' := [thinA, thinA]) ⟨hth, hth, trivial⟩) (by simp only [go_sem]) (by rw [<- eT]; simp only [go_sem, vss, upM, upR, List.map_cons, List.map_nil]) ?_
 rintro r bx rfl
 simp only [go_sem]
def qB : ByteArray := ⟨#[113]⟩
def pB : ByteArray := ⟨#[112]⟩
def rB : ByteArray := ⟨#[114]⟩
def rkL (k j : Nat) : List ByteArray := (List.range j).map fun t => nm1 rB (k - t)
theorem rk_succ (k j : Nat) : rkL k (j + 1) = rkL k j ++ [nm1 rB (k - j)] := by unfold rkL; rw [List.range_succ, List.map_append]; rfl
theorem dealt_ruleB {ns np : Nat} {r : RD} (h : DealtR ns np r) : ruleB ns np r = true := by
 unfold ruleB changesB movesB smallB indexB betweenB
 have h1 := h.src; have h2 := h.dst; have h3 := h.need; have h4 := h.give
 simp only [Bool.and_eq_true, Bool.or_eq_true, decide_eq_true_eq, List.all_eq_true, beq_iff_eq]
 exact ⟨⟨⟨⟨h2.1, h2.2⟩, h1.1, h1.2⟩, ⟨⟨h3.1, h4.1⟩, fun x hx => by have := h3.2 x hx; omega⟩, fun x hx => by have := h4.2 x hx; omega⟩, h.move⟩
theorem con_namesF (a : ByteArray) (n : Nat) (ha : a.size <= 10) (hn : n <= 9) : Con Tryz.prog 59 [vStr a, vi n] [] fun r _ => r = vss (nmL a n) :=
 (Con.freezeR (fun _ => true) (con_names a n ha hn)).weak fun r b ⟨r0, h0, h1⟩ => by
  subst h0; subst h1
  exact ⟨_, rfl, leV_refl _⟩
def cB : ByteArray := ⟨#[99]⟩
def lB : ByteArray := ⟨#[108]⟩
def plB (k : Int) : ByteArray := if k = 2 \/ k = 3 then cB else pB
def dealtG (k : Int) (ns np nl : Nat) (ra : List Int) (lv ag : Int) (rules : List RD) (st : CV) : MD := { kind := k, states := nmL qB ns, places := nmL (plB k) np, letters := nmL lB nl, ranks := ra, levels := lv, age := ag, rules := rules, start := st }
structure NumOk (k : Int) (ns np nl : Nat) (ra : List Int) (lv ag : Int) : Prop where
 kind : 1 <= k /\ k <= 6
 states : 1 <= ns /\ ns <= 3
 places : (k = 4 -> np = 0) /\ (k = 2 \/ k = 3 -> 1 <= np /\ np <= 2) /\ (k = 1 \/ k = 5 \/ k = 6 -> 1 <= np /\ np <= 3)
 letters : (k = 2 \/ k = 3 \/ k = 4 -> 1 <= nl /\ nl <= 3) /\ (k = 1 \/ k = 5 \/ k = 6 -> nl = 0)
 ranks : (k = 3 -> ra.length = nl /\ ∀ x ∈ ra, 0 <= x /\ x <= 2) /\ (k ≠ 3 -> ra = [])
 levels : (k = 4 -> 1 <= lv /\ lv <= 2) /\ (k ≠ 4 -> lv = 0)
 age : (k = 5 -> 0 <= ag /\ ag <= 2) /\ (k ≠ 5 -> ag = 0)
theorem names_g {k : Int} {ns np nl c : Nat} (h1 : 1 <= ns /\ ns <= 3) (h2 : np <= 3) (h3 : nl <= 3) (h4 : c <= 4) : namesB (nmL qB ns ++ nmL (plB k) np ++ nmL lB nl ++ rkL c c) = true := by
 have key : ∀ p ∈ [cB, pB], ∀ a ∈ [1, 2, 3], ∀ b ∈ [0, 1, 2, 3], ∀ d ∈ [0, 1, 2, 3], ∀ c ∈ [0, 1, 2, 3, 4], namesB (nmL qB a ++ nmL p b ++ nmL lB d ++ rkL c c) = true := by
  have : ([cB, pB].all fun p => [1, 2, 3].all fun a => [0, 1, 2, 3].all fun b => [0, 1, 2, 3].all fun d => [0, 1, 2, 3, 4].all fun c => namesB (nmL qB a ++ nmL p b ++ nmL lB d ++ rkL c c)) = true := by kernel_rfl
  intro p hp a ha b hb d hd c hc
  exact List.all_eq_true.1 (List.all_eq_true.1 (List.all_eq_true.1 (List.all_eq_true.1 (List.all_eq_true.1 this p hp) a ha) b hb) d hd) c hc
 refine key (plB k) ?_ ns (by simp; omega) np (by simp; omega) nl (by simp; omega) c (by simp; omega)
 unfold plB
 split <;> simp
theorem nm_size {a : ByteArray} {n : Nat} (ha : a.size <= 10) : ∀ s ∈ nmL a n, s.size <= 9223372036854775806 := fun s hs => by
 obtain ⟨i, _, rfl⟩ := List.mem_map.1 hs
 have e : (nm1 a i).size = a.size + 1 := by unfold nm1; rw [ByteArray.size_append]; rfl
 omega
section
variable {k : Int} {ns np nl : Nat} {ra : List Int} {lv ag : Int} {rules : List RD} {st : CV}
theorem NumOk.few (h : NumOk k ns np nl ra lv ag) : np <= 3 /\ nl <= 3 := by
 have := h.kind; have := h.places; have := h.letters
 omega
theorem NumOk.sized (h : NumOk k ns np nl ra lv ag) (hr : rules.length <= 12) : sizedB (dealtG k ns np nl ra lv ag rules st) = true := by
 have h1 := h.kind; have h2 := h.states; have h3 := h.places; have h4 := h.letters; have h5 := h.levels; have h6 := h.age
 have l1 : (dealtG k ns np nl ra lv ag rules st).states.length = ns := nmL_len _ _
 have l2 : (dealtG k ns np nl ra lv ag rules st).places.length = np := nmL_len _ _
 have l3 : (dealtG k ns np nl ra lv ag rules st).letters.length = nl := nmL_len _ _
 unfold sizedB betweenB
 rw [l1, l2, l3]
 show (decide ((1 : Int) <= ns) && decide ((ns : Int) <= 8) && decide (rules.length <= 12) && (decide (lim k 0 <= np) && decide ((np : Int) <= lim k 1)) && (decide (lim k 2 <= nl) && decide ((nl : Int) <= lim k 3)) && (decide (lim k 4 <= lv) && decide (lv <= lim k 5)) && (decide (lim k 6 <= ag) && decide (ag <= lim k 7))) = true
 obtain rfl | rfl | rfl | rfl | rfl | rfl : k = 1 \/ k = 2 \/ k = 3 \/ k = 4 \/ k = 5 \/ k = 6 := by omega
 all_goals simp only [Bool.and_eq_true, decide_eq_true_eq]
 ·have e : lim 1 0 = 1 /\ lim 1 1 = 6 /\ lim 1 2 = 0 /\ lim 1 3 = 0 /\ lim 1 4 = 0 /\ lim 1 5 = 0 /\ lim 1 6 = 0 /\ lim 1 7 = 0 := by decide
  omega
 ·have e : lim 2 0 = 1 /\ lim 2 1 = 2 /\ lim 2 2 = 1 /\ lim 2 3 = 6 /\ lim 2 4 = 0 /\ lim 2 5 = 0 /\ lim 2 6 = 0 /\ lim 2 7 = 0 := by decide
  omega
 ·have e : lim 3 0 = 1 /\ lim 3 1 = 2 /\ lim 3 2 = 1 /\ lim 3 3 = 6 /\ lim 3 4 = 0 /\ lim 3 5 = 0 /\ lim 3 6 = 0 /\ lim 3 7 = 0 := by decide
  omega
 ·have e : lim 4 0 = 0 /\ lim 4 1 = 0 /\ lim 4 2 = 1 /\ lim 4 3 = 6 /\ lim 4 4 = 1 /\ lim 4 5 = 2 /\ lim 4 6 = 0 /\ lim 4 7 = 0 := by decide
  omega
 ·have e : lim 5 0 = 1 /\ lim 5 1 = 6 /\ lim 5 2 = 0 /\ lim 5 3 = 0 /\ lim 5 4 = 0 /\ lim 5 5 = 0 /\ lim 5 6 = 0 /\ lim 5 7 = 3 := by decide
  omega
 ·have e : lim 6 0 = 1 /\ lim 6 1 = 6 /\ lim 6 2 = 0 /\ lim 6 3 = 0 /\ lim 6 4 = 0 /\ lim 6 5 = 0 /\ lim 6 6 = 0 /\ lim 6 7 = 0 := by decide
  omega
theorem NumOk.ranked (h : NumOk k ns np nl ra lv ag) : rankedB (dealtG k ns np nl ra lv ag rules st) = true := by
 have l3 : (dealtG k ns np nl ra lv ag rules st).letters.length = nl := nmL_len _ _
 unfold rankedB
 rw [l3]
 show (if k = 3 then decide (ra.length = nl) && ra.all fun r => betweenB r 0 5 else ra.length == 0) = true
 by_cases h3 : k = 3
 ·obtain ⟨a, b⟩ := h.ranks.1 h3
  rw [if_pos h3, decide_eq_true a, Bool.true_and, List.all_eq_true]
  intro x hx
  have := b x hx
  unfold betweenB
  rw [decide_eq_true this.1, decide_eq_true (by omega)]; rfl
 ·rw [if_neg h3, h.ranks.2 h3]; rfl
theorem NumOk.between (h : NumOk k ns np nl ra lv ag) : betweenB k 1 6 = true := by
 unfold betweenB
 rw [decide_eq_true h.kind.1, decide_eq_true h.kind.2]; rfl
theorem NumOk.own (h : NumOk k ns np nl ra lv ag) : OwnX (dealtG k ns np nl ra lv ag rules st) := by
 have hf := h.few
 refine ⟨h.between, h.sized (rules := []) (st := zeroV) (by simp), h.ranked, ?_, fun s hs => ?_⟩
 ·have := names_g (k := k) (c := 0) h.states hf.1 hf.2 (by omega)
  rw [show rkL 0 0 = [] from rfl, List.append_nil] at this
  exact this
 ·rcases List.mem_append.1 hs with hs | hs
  ·rcases List.mem_append.1 hs with hs | hs
   ·exact nm_size (a := qB) (by decide) s hs
   ·refine nm_size (a := plB k) ?_ s hs
    unfold plB; split <;> decide
  ·exact nm_size (a := lB) (by decide) s hs
end
structure DealtG (k : Int) (ns np nl : Nat) (ra : List Int) (lv ag : Int) (rules : List RD) (st : CV) : Prop where
 num : NumOk k ns np nl ra lv ag
 few : rules.length <= 4
 names : rules.map RD.name = rkL rules.length rules.length
 rules : ∀ r ∈ rules, rightR (dealtG k ns np nl ra lv ag [] zeroV) r = true /\ LenR r
 start : if k = 6 then st = zeroV else validV (typeM (dealtG k ns np nl ra lv ag [] zeroV)) st = true
 slim : st.Slim
section
variable {k : Int} {ns np nl : Nat} {ra : List Int} {lv ag : Int} {rules : List RD} {st : CV}
theorem DealtG.len (h : DealtG k ns np nl ra lv ag rules st) : LenM (dealtG k ns np nl ra lv ag rules st) := by
 have hn := h.num
 have hf := hn.few
 have h4 := h.few
 have e : namesOf (dealtG k ns np nl ra lv ag rules st) = nmL qB ns ++ nmL (plB k) np ++ nmL lB nl ++ rules.map RD.name := rfl
 have hs := hn.states
 refine ⟨?_, ?_, ?_, fun r hr => (h.rules r hr).2, h.slim.ok⟩
 ·rw [e]
  simp only [List.length_append, List.length_map, nmL_len]
  omega
 ·rw [e]
  intro s hs
  rcases List.mem_append.1 hs with hs | hs
  ·exact hn.own (rules := []) (st := zeroV) |>.sizes s hs
  ·rw [h.names] at hs
   obtain ⟨i, _, rfl⟩ := List.mem_map.1 hs
   have e : (nm1 rB (rules.length - i)).size = rB.size + 1 := by unfold nm1; rw [ByteArray.size_append]; rfl
   have : rB.size = 1 := rfl
   omega
 ·show ra.length <= _
  by_cases h3 : k = 3
  ·have := (hn.ranks.1 h3).1; omega
  ·rw [hn.ranks.2 h3]; simp
end
theorem DealtX.of1 {m : MD} {x : RD} (hk : m.kind = 1) (hp : m.places.length <= 6) (h : DealtR m.states.length m.places.length x) (hn : x.name = emptyB) : DealtX m x := by
 have hb := dealt_ruleB h
 unfold ruleB at hb
 simp only [Bool.and_eq_true] at hb
 have h3 := h.need.1; have h4 := h.give.1
 refine ⟨right_mk (ends_mk h.dst h.src) ?_ ?_, hn, ?_⟩
 ·unfold fitsR
  rw [if_pos hk, hb.1.2, hb.2]; rfl
 ·rw [hk]
  exact (bare_of h.bare).symm
 ·have hm : x.move.length <= 6 := by rcases h.move with h | h <;> omega
  have e := bare_of h.bare
  rw [e]
  exact ⟨⟨by show x.need.length <= _; omega, by show x.give.length <= _; omega, by show x.move.length <= _; omega, by simp, by simp, by simp, by simp⟩, by simp, by simp⟩
theorem con_dRuleX (l : List Int) (s : DS) {k : Int} {ns np nl : Nat} {ra : List Int} {lv ag : Int} (hd : Dk l s) (h : NumOk k ns np nl ra lv ag) : RuleCon l s (dealtG k ns np nl ra lv ag [] zeroV) := by
 have h1 := h.kind; have h2 := h.states; have h3 := h.places; have h4 := h.letters; have h5 := h.levels; have h6 := h.age
 have l1 : (dealtG k ns np nl ra lv ag [] zeroV).states.length = ns := nmL_len _ _
 have l2 : (dealtG k ns np nl ra lv ag [] zeroV).places.length = np := nmL_len _ _
 have l3 : (dealtG k ns np nl ra lv ag [] zeroV).letters.length = nl := nmL_len _ _
 have hs : 1 <= (dealtG k ns np nl ra lv ag [] zeroV).states.length /\ (dealtG k ns np nl ra lv ag [] zeroV).states.length <= 8 := by rw [l1]; omega
 have hc : k = 1 \/ k = 2 \/ k = 3 \/ k = 4 \/ k = 5 \/ k = 6 := by omega
 rcases hc with hk | hk | hk | hk | hk | hk
 ·refine (con_dRule1 l s (dealtG k ns np nl ra lv ag [] zeroV) hd hk hs (by rw [l2]; omega)).mono fun r b ⟨x, s', g1, g2, g3, g4, g5⟩ => ?_
  exact ⟨x, s', .of1 hk (by rw [l2]; omega) g1 g2, g3, g4, g5⟩
 ·exact con_dRule2 l s _ hd hk (by rw [l2]; omega) (by rw [l3]; omega) hs
 ·exact con_dRule3 l s _ hd hk (by rw [l2]; omega) (by rw [l3]; omega) hs
 ·exact con_dRule4 l s _ hd hk (by rw [l3]; omega) (show 1 <= lv /\ lv <= 2 by omega) hs
 ·exact con_dRule5 l s _ hd hk (by rw [l2]; omega) (show 0 <= ag /\ ag <= 3 by omega) hs
 ·exact con_dRule6 l s _ hd hk (by rw [l2]; omega) hs
theorem con_dRanksF (l : List Int) (s : DS) (n : Nat) (h : Dk l s) (hn : n <= 1000000) : Con Tryz.prog 60 [.pb 0 0, vi n] [deckA l s]
  fun r b => r = vs 0 (smV l s 2 n) /\ b = [deckA l (smS l s 2 n)] := by
 refine Con.intro Tryz.func60 rfl Tryz.ntmps60 Tryz.results60 (by kernel_rfl) (by simp) 1 (by simp) ?_
 simp only [go_sem]
 refine CallU.boxes (i := 0) (is := []) (bx0 := [deckA l s]) (con_dSmallF l s n 2 h hn (by omega)) (by simp only [go_sem]) (by simp only [go_sem]) (by simp only [go_sem]) (by simp only [go_sem]) (by simp only [go_sem]) ?_
 rintro r b ⟨rfl, rfl⟩
 simp only [go_sem]
theorem plB_1 : plB 1 = pB := by unfold plB; rw [if_neg (by omega)]
theorem plB_2 : plB 2 = cB := by unfold plB; rw [if_pos (by omega)]
theorem plB_3 : plB 3 = cB := by unfold plB; rw [if_pos (by omega)]
theorem plB_5 : plB 5 = pB := by unfold plB; rw [if_neg (by omega)]
theorem plB_6 : plB 6 = pB := by unfold plB; rw [if_neg (by omega)]
theorem nmL_zero (a : ByteArray) : nmL a 0 = [] := rfl
theorem num1 {ns np : Nat} (a : 1 <= ns /\ ns <= 3) (b : 1 <= np /\ np <= 3) : NumOk 1 ns np 0 [] 0 0 := ⟨by omega, a, by omega, by omega, ⟨fun h => by omega, fun _ => rfl⟩, by omega, by omega⟩
theorem num2 {ns np nl : Nat} (a : 1 <= ns /\ ns <= 3) (b : 1 <= np /\ np <= 2) (c : 1 <= nl /\ nl <= 3) : NumOk 2 ns np nl [] 0 0 := ⟨by omega, a, by omega, by omega, ⟨fun h => by omega, fun _ => rfl⟩, by omega, by omega⟩
theorem num3 {ns np nl : Nat} {ra : List Int} (a : 1 <= ns /\ ns <= 3) (b : 1 <= np /\ np <= 2) (c : 1 <= nl /\ nl <= 3) (d : ra.length = nl) (e : ∀ x ∈ ra, 0 <= x /\ x <= 2) : NumOk 3 ns np nl ra 0 0 := ⟨by omega, a, by omega, by omega, ⟨fun _ => ⟨d, e⟩, fun h => by omega⟩, by omega, by omega⟩
theorem num4 {ns nl : Nat} {lv : Int} (a : 1 <= ns /\ ns <= 3) (c : 1 <= nl /\ nl <= 3) (d : 1 <= lv /\ lv <= 2) : NumOk 4 ns 0 nl [] lv 0 := ⟨by omega, a, by omega, by omega, ⟨fun h => by omega, fun _ => rfl⟩, by omega, by omega⟩
theorem num5 {ns np : Nat} {ag : Int} (a : 1 <= ns /\ ns <= 3) (b : 1 <= np /\ np <= 3) (d : 0 <= ag /\ ag <= 2) : NumOk 5 ns np 0 [] 0 ag := ⟨by omega, a, by omega, by omega, ⟨fun h => by omega, fun _ => rfl⟩, by omega, by omega⟩
theorem num6 {ns np : Nat} (a : 1 <= ns /\ ns <= 3) (b : 1 <= np /\ np <= 3) : NumOk 6 ns np 0 [] 0 0 := ⟨by omega, a, by omega, by omega, ⟨fun h => by omega, fun _ => rfl⟩, by omega, by omega⟩
theorem right_name (m : MD) (x : RD) (a : ByteArray) : rightR m { x with name := a } = rightR m x := by
 have e : sameB { x with name := a } (onlyR m.kind { x with name := a }) = sameB x (onlyR m.kind x) := by
  unfold onlyR
  split
  ·unfold sameB; simp
  ·split
   ·unfold sameB; simp
   ·split
    ·unfold sameB; simp
    ·split
     ·unfold sameB; simp
     ·unfold sameB; simp
 unfold rightR
 rw [e]; rfl
end Go.AM
