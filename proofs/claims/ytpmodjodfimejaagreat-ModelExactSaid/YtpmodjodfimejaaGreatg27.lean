/- QE2 QF Am6 QR Closed1U Closed1Uz -/
import Derived.Test.YtpmodjodfimejaaGreatg26
import Derived.Test.YtpmodjodfimejaaGreatg21
import Derived.Test.YtpmodjodfimejaaGreatg25
import Derived.Test.YtpmodjodfimejaaGreatg5
import Derived.Test.YtpmodjodfimejaaGreatg7
namespace Go.AM
open Go Go.Proofs Go.RowKit
theorem DealtG.kids {k : Int} {ns np nl : Nat} {ra : List Int} {lv ag : Int} {rules : List RD} {st : CV} (h : DealtG k ns np nl ra lv ag rules st) : st.kids.length <= 1000 := by
 have hs := h.start
 split at hs
 ·rw [hs]; exact Nat.zero_le _
 ·have hO : OwnX (dealtG k ns np nl ra lv ag [] zeroV) := h.num.own
  have hw := valid_with hs
  have hp := partsM_len hO
  have h4 := hw.2.2.2
  rw [List.length_drop] at h4
  omega
theorem con_dModelI (l : List Int) (s : DS) (k : Int) (hd : Dk l s) (hk : 0 <= k /\ k <= 6) : Con Tryz.prog 19 [.pb 0 0, vi k] [deckA l s] fun r b => ∃ m s', ModI m /\ Dk l s' /\ r = vM m /\ b = [deckA l s'] := by
 by_cases h0 : k = 0
 ·subst h0
  exact (con_dModel0 l s hd).mono fun r b ⟨k, ns, np, nl, ra, lv, ag, rules, st, s', h1, h2, h3, h4⟩ => ⟨_, s', h1.modI h1.kids, h2, h3, h4⟩
 ·exact (con_dModelX l s k hd (by omega)).mono fun r b ⟨ns, np, nl, ra, lv, ag, rules, st, s', h1, h2, h3, h4⟩ => ⟨_, s', h1.modI h1.kids, h2, h3, h4⟩
theorem con_dBent (l : List Int) (s : DS) (k : Int) (hd : Dk l s) (hk : 0 <= k /\ k <= 6) : Con Tryz.prog 20 [.pb 0 0, vi k] [deckA l s] fun r b => ∃ m s', ModE m /\ Dk l s' /\ r = vM m /\ b = [deckA l s'] :=
 ((con_dBentS l s k hd (con_dModelI l s k hd hk)).freezeB fun _ => true).weak fun r b ⟨r1, b1, ⟨m, s', h1, h2, h3, h4⟩, h7, h8⟩ => by
  subst h4; subst h7; subst h8
  exact ⟨_, ⟨m, s', h1, h2, rfl, rfl⟩, h3⟩
set_option maxRecDepth 100000
set_option maxHeartbeats 8000000
theorem sameMD_self (m : MD) : sameMD m m = true := by
 unfold sameMD sameRs
 rw [sameSs_refl, sameSs_refl, sameSs_refl, cmpV_self]
 simp [same_refl]
theorem typeF_ok {m : MD} (h : LenM m) : (typeF m).Ok := by
 unfold typeF
 split
 ·rename_i h0
  have hz := checkF_zero h0
  have hsz := sized_size h hz.2.1 hz.2.2.1
  exact type_ok hsz.1 hsz.2
 ·exact .mk _ _ _ _ (by simp) (by simp) fun x hx => by cases hx
theorem matF_len {m : MD} (h : LenM m) : (matF m).1.length <= 1000000 /\ ∀ r ∈ (matF m).1, r.length <= 1000000 := by
 have hl := names_lens h
 unfold matF
 split
 ·exact ⟨by simp, fun x hx => by cases hx⟩
 ·split
  ·unfold matL
   refine ⟨by rw [rowsF_len]; exact hl.2.1, fun r hr => ?_⟩
   unfold rowsF at hr
   obtain ⟨p, _, rfl⟩ := List.mem_map.1 hr
   unfold chgOf
   rw [List.length_map, List.length_take]
   have := hl.2.2.2
   omega
  ·exact ⟨by simp, fun x hx => by cases hx⟩
theorem confR_slim {m : MD} {s : Int} {l : List CV} (hl : l.length <= 1000) (hs : ∀ x ∈ l, x.Slim) : (confR m s l).1.Slim := by
 unfold confR
 split
 ·exact .leaf 0
 ·split
  ·exact with_slim hl hs
  ·exact .leaf 0
def exactT (l : List Int) (raw own : MD) (c : CV) (state : Int) (τ : St) : Prop := ∃ (m1 m2 : MD) (s : DS), ModE m1 /\ ModE m2 /\ Dk l s /\ τ = ⟨226, [(3, vi state), (5, .pb 0 0), (6, .pb 1 0), (9, .pb 2 0), (11, .pb 3 0), (63, .sl 4096 10 [.ag [vi raw.kind, .sl 0 1 (raw.states.map vStr), .sl 0 1 (raw.places.map vStr), .sl 0 1 (raw.letters.map vStr), vs 0 raw.ranks, vi raw.levels, vi raw.age, .sl 0 14 (raw.rules.map vRule), vi raw.start.n, .sl 0 2 (raw.start.kids.map vV)], .ag [vi own.kind, .sl 0 1 (own.states.map vStr), .sl 0 1 (own.places.map vStr), .sl 0 1 (own.letters.map vStr), vs 0 own.ranks, vi own.levels, vi own.age, .sl 0 14 (own.rules.map vRule), vi own.start.n, .sl 0 2 (own.start.kids.map vV)], .ag [vi m1.kind, .sl 0 1 (m1.states.map vStr), .sl 0 1 (m1.places.map vStr), .sl 0 1 (m1.letters.map vStr), vs 0 m1.ranks, vi m1.levels, vi m1.age, .sl 0 14 (m1.rules.map vRule), vi m1.start.n, .sl 0 2 (m1.start.kids.map vV)], .ag [vi m2.kind, .sl 0 1 (m2.states.map vStr), .sl 0 1 (m2.places.map vStr), .sl 0 1 (m2.letters.map vStr), vs 0 m2.ranks, vi m2.levels, vi m2.age, .sl 0 14 (m2.rules.map vRule), vi m2.start.n, .sl 0 2 (m2.start.kids.map vV)]]), (64, vi 4), (65, vi 0)], [[vi raw.kind, .sl 0 1 (raw.states.map vStr), .sl 0 1 (raw.places.map vStr), .sl 0 1 (raw.letters.map vStr), vs 0 raw.ranks, vi raw.levels, vi raw.age, .sl 0 14 (raw.rules.map vRule), vi raw.start.n, .sl 0 2 (raw.start.kids.map vV)], [vi c.n, .sl 0 2 (c.kids.map vV)], deckA l s, [vi own.kind, .sl 0 1 (own.states.map vStr), .sl 0 1 (own.places.map vStr), .sl 0 1 (own.letters.map vStr), vs 0 own.ranks, vi own.levels, vi own.age, .sl 0 14 (own.rules.map vRule), vi own.start.n, .sl 0 2 (own.start.kids.map vV)]]⟩
theorem exactT.mk {l : List Int} {raw own m1 m2 : MD} {c : CV} {state : Int} {s : DS} (h1 : ModE m1) (h2 : ModE m2) (h3 : Dk l s) : exactT l raw own c state ⟨226, [(3, vi state), (5, .pb 0 0), (6, .pb 1 0), (9, .pb 2 0), (11, .pb 3 0), (63, .sl 4096 10 [.ag [vi raw.kind, .sl 0 1 (raw.states.map vStr), .sl 0 1 (raw.places.map vStr), .sl 0 1 (raw.letters.map vStr), vs 0 raw.ranks, vi raw.levels, vi raw.age, .sl 0 14 (raw.rules.map vRule), vi raw.start.n, .sl 0 2 (raw.start.kids.map vV)], .ag [vi own.kind, .sl 0 1 (own.states.map vStr), .sl 0 1 (own.places.map vStr), .sl 0 1 (own.letters.map vStr), vs 0 own.ranks, vi own.levels, vi own.age, .sl 0 14 (own.rules.map vRule), vi own.start.n, .sl 0 2 (own.start.kids.map vV)], .ag [vi m1.kind, .sl 0 1 (m1.states.map vStr), .sl 0 1 (m1.places.map vStr), .sl 0 1 (m1.letters.map vStr), vs 0 m1.ranks, vi m1.levels, vi m1.age, .sl 0 14 (m1.rules.map vRule), vi m1.start.n, .sl 0 2 (m1.start.kids.map vV)], .ag [vi m2.kind, .sl 0 1 (m2.states.map vStr), .sl 0 1 (m2.places.map vStr), .sl 0 1 (m2.letters.map vStr), vs 0 m2.ranks, vi m2.levels, vi m2.age, .sl 0 14 (m2.rules.map vRule), vi m2.start.n, .sl 0 2 (m2.start.kids.map vV)]]), (64, vi 4), (65, vi 0)], [[vi raw.kind, .sl 0 1 (raw.states.map vStr), .sl 0 1 (raw.places.map vStr), .sl 0 1 (raw.letters.map vStr), vs 0 raw.ranks, vi raw.levels, vi raw.age, .sl 0 14 (raw.rules.map vRule), vi raw.start.n, .sl 0 2 (raw.start.kids.map vV)], [vi c.n, .sl 0 2 (c.kids.map vV)], deckA l s, [vi own.kind, .sl 0 1 (own.states.map vStr), .sl 0 1 (own.places.map vStr), .sl 0 1 (own.letters.map vStr), vs 0 own.ranks, vi own.levels, vi own.age, .sl 0 14 (own.rules.map vRule), vi own.start.n, .sl 0 2 (own.start.kids.map vV)]]⟩ := ⟨m1, m2, s, h1, h2, h3, rfl⟩
def exactTree : Tr := .front 2 (.front 3 (.front 5 (.front 9 (.alt (.one 0 (.alt (.one 1 (.one 4 (.one 6 (.one 7 (.one 8 .done))))) (.one 4 (.alt (.one 1 (.one 6 (.one 7 (.one 8 .done)))) (.one 6 (.one 1 (.one 7 (.one 8 .done)))))))) (.alt (.one 1 (.alt (.one 0 (.one 4 (.one 6 (.one 7 (.one 8 .done))))) (.one 4 (.alt (.one 0 (.one 6 (.one 7 (.one 8 .done)))) (.one 6 (.one 0 (.one 7 (.one 8 .done)))))))) (.one 4 (.alt (.one 0 (.alt (.one 1 (.one 6 (.one 7 (.one 8 .done)))) (.one 6 (.one 1 (.one 7 (.one 8 .done)))))) (.alt (.one 1 (.alt (.one 0 (.one 6 (.one 7 (.one 8 .done)))) (.one 6 (.one 0 (.one 7 (.one 8 .done)))))) (.one 6 (.alt (.one 0 (.one 1 (.one 7 (.one 8 .done)))) (.one 1 (.one 0 (.one 7 (.one 8 .done))))))))))))))
theorem con_exactLaw (l : List Int) (raw : MD) (c : CV) (state : Int) (hraw : raw.start.Ok) (hc : c.Ok) : Con Tryz.prog 3 [vs 0 l, vM raw, vV c, vi state] [] fun r _ => r = vb true := by
 have e1 : ∀ m : MD, vM m = .ag [vi m.kind, .sl 0 1 (m.states.map vStr), .sl 0 1 (m.places.map vStr), .sl 0 1 (m.letters.map vStr), vs 0 m.ranks, vi m.levels, vi m.age, .sl 0 14 (m.rules.map vRule), vi m.start.n, .sl 0 2 (m.start.kids.map vV)] := fun _ => rfl
 have ec := vV_eq c
 have cF := con_lfew raw hraw
 have cS := con_lsmall 5 c (by omega) hc
 rw [show (((5 : Nat) : Int) - 1) = 4 by rfl, ec] at cS
 rw [e1 raw] at cF ⊢
 rw [ec]
 refine Con.intro Tryz.func3 rfl Tryz.ntmps3 Tryz.results3 (by kernel_rfl) (by simp) 0 (by simp) ?_
 simp only [go_sem]
 refine CallU.free con_sane15 (by simp only [go_sem]) (by simp only [go_sem]) ?_
 rintro r bx rfl
 simp only [go_sem]
 refine CallU.free (con_dFew l) (by simp only [go_sem]) (by simp only [go_sem]) ?_
 rintro r bx rfl
 by_cases hf : (l.length : Int) <= 400
 case neg =>
  simp only [go_sem, hf]
  refine CallU.free con_sane15 (by simp only [go_sem]) (by simp only [go_sem]) ?_
  rintro r bx rfl
  simp only [go_sem]
 simp only [go_sem, hf]
 refine CallU.free cF (by simp only [go_sem]) (by simp only [go_sem]) ?_
 rintro r bx rfl
 cases hfw : fewM raw
 case false =>
  simp only [go_sem]
  refine CallU.free con_sane15 (by simp only [go_sem]) (by simp only [go_sem]) ?_
  rintro r bx rfl
  simp only [go_sem]
 simp only [go_sem]
 refine CallU.free cS (by simp only [go_sem]) (by simp only [go_sem]) ?_
 rintro r bx rfl
 cases hsm : smallC 5 c
 case false =>
  simp only [go_sem]
  refine CallU.free con_sane15 (by simp only [go_sem]) (by simp only [go_sem]) ?_
  rintro r bx rfl
  simp only [go_sem]
 simp only [go_sem]
 refine CallU.news (bx0 := []) (con_dNew l) (by simp only [go_sem]) (by simp only [go_sem]) (by simp only [go_sem]) (by simp only [go_sem]) (by simp only [go_sem]) ?_
 rintro r b ⟨rfl, rfl⟩
 simp only [go_sem]
 have hd0 : Dk l (0, 11400714819323198485) := deck_dk hf
 have hn_k := nextV_lt (l := l) (s := (0, 11400714819323198485)) (n := 6) (by omega)
 have hd_1 : Dk l (nextS l (0, 11400714819323198485) 6) := nextS_dk hd0
 refine CallU.boxes (i := 2) (is := []) (bx0 := [deckA l (0, 11400714819323198485)]) (con_dNext l (0, 11400714819323198485) 6 hd0) (by simp only [go_sem]) (by simp only [go_sem]) (by simp only [go_sem]) (by simp only [go_sem]) (by simp only [go_sem]) ?_
 rintro r b ⟨rfl, rfl⟩
 obtain ⟨k, ek, hk⟩ : ∃ k : Int, 1 + nextV l (0, 11400714819323198485) 6 = k /\ (1 <= k /\ k <= 6) := ⟨_, rfl, by omega⟩
 have hw_k : IntKind.i64.wrap (1 + nextV l (0, 11400714819323198485) 6) = k := by rw [wrap_in (by omega) (by omega), ek]
 simp only [go_sem, hw_k]
 generalize nextS l (0, 11400714819323198485) 6 = s1 at hd_1 ⊢
 refine CallU.boxes (i := 2) (is := []) (bx0 := [deckA l s1]) (con_dModelX l s1 k hd_1 hk) (by simp only [go_sem]) (by simp only [go_sem]) (by simp only [go_sem]) (by simp only [go_sem]) (by simp only [go_sem]) ?_
 rintro r b ⟨ns, np, nl, ra, lv, ag, rules, st, s2, hM, hd_2, rfl, rfl⟩
 have hO : OwnX (dealtG k ns np nl ra lv ag rules st) := hM.num.own
 have hE : ModE (dealtG k ns np nl ra lv ag rules st) := ⟨hM.len, hM.slim, hM.kids⟩
 generalize dealtG k ns np nl ra lv ag rules st = own at hO hE ⊢
 have hR := few_len hfw
 have hraw' : ModE raw := ⟨hR.1, hR.2.1, by omega⟩
 have hcs := small_slim _ _ hsm
 rw [e1 own]
 simp only [go_sem]
 have hb1 := fun s h => con_dBent l s k h (by omega)
 have hb2 := fun s h => con_dBent l s 0 h (by omega)
 refine DrawK.meetE (exactT l raw own c state) ?_ ?_
 ·refine DrawK.weaken (τ := ⟨226, [(3, vi state), (5, .pb 0 0), (6, .pb 1 0), (9, .pb 2 0), (10, vi k), (11, .pb 3 0)], [[vi raw.kind, .sl 0 1 (raw.states.map vStr), .sl 0 1 (raw.places.map vStr), .sl 0 1 (raw.letters.map vStr), vs 0 raw.ranks, vi raw.levels, vi raw.age, .sl 0 14 (raw.rules.map vRule), vi raw.start.n, .sl 0 2 (raw.start.kids.map vV)], [vi c.n, .sl 0 2 (c.kids.map vV)], deckA l s2, [vi own.kind, .sl 0 1 (own.states.map vStr), .sl 0 1 (own.places.map vStr), .sl 0 1 (own.letters.map vStr), vs 0 own.ranks, vi own.levels, vi own.age, .sl 0 14 (own.rules.map vRule), vi own.start.n, .sl 0 2 (own.start.kids.map vV)]]⟩) ?_ (by simp only [go_sem])
  refine DrawK.tree exactTree mixed (by kernel_rfl) ?_
  unfold exactTree
  simp only [go_sem]
  refine andK_mk ?_ ?_
  ·refine andK_mk ?_ ?_
   ·refine CallU.boxes (i := 2) (is := []) (bx0 := [deckA l s2]) (hb1 s2 hd_2) (by simp only [go_sem]) (by simp only [go_sem]) (by simp only [go_sem]) (by simp only [go_sem]) (by simp only [go_sem]) ?_
    rintro r b ⟨m1, sA, hm1, hdA, rfl, rfl⟩
    rw [e1 m1]
    simp only [go_sem]
    refine CallU.boxes (i := 2) (is := []) (bx0 := [deckA l sA]) (hb2 sA hdA) (by simp only [go_sem]) (by simp only [go_sem]) (by simp only [go_sem]) (by simp only [go_sem]) (by simp only [go_sem]) ?_
    rintro r b ⟨m2, sB, hm2, hdB, rfl, rfl⟩
    rw [e1 m2]
    simp only [go_sem]
    exact meetT.intro _ (exactT.mk hm1 hm2 hdB) (by simp only [go_sem])
   ·simp only [go_sem]
    refine CallU.boxes (i := 2) (is := []) (bx0 := [deckA l s2]) (hb1 s2 hd_2) (by simp only [go_sem]) (by simp only [go_sem]) (by simp only [go_sem]) (by simp only [go_sem]) (by simp only [go_sem]) ?_
    rintro r b ⟨m1, sA, hm1, hdA, rfl, rfl⟩
    rw [e1 m1]
    simp only [go_sem]
    refine andK_mk ?_ ?_
    ·refine CallU.boxes (i := 2) (is := []) (bx0 := [deckA l sA]) (hb2 sA hdA) (by simp only [go_sem]) (by simp only [go_sem]) (by simp only [go_sem]) (by simp only [go_sem]) (by simp only [go_sem]) ?_
     rintro r b ⟨m2, sB, hm2, hdB, rfl, rfl⟩
     rw [e1 m2]
     simp only [go_sem]
     exact meetT.intro _ (exactT.mk hm1 hm2 hdB) (by simp only [go_sem])
    ·simp only [go_sem]
     refine CallU.boxes (i := 2) (is := []) (bx0 := [deckA l sA]) (hb2 sA hdA) (by simp only [go_sem]) (by simp only [go_sem]) (by simp only [go_sem]) (by simp only [go_sem]) (by simp only [go_sem]) ?_
     rintro r b ⟨m2, sB, hm2, hdB, rfl, rfl⟩
     rw [e1 m2]
     simp only [go_sem]
     exact meetT.intro _ (exactT.mk hm1 hm2 hdB) (by simp only [go_sem])
  ·simp only [go_sem]
   refine andK_mk ?_ ?_
   ·refine andK_mk ?_ ?_
    ·refine CallU.boxes (i := 2) (is := []) (bx0 := [deckA l s2]) (hb1 s2 hd_2) (by simp only [go_sem]) (by simp only [go_sem]) (by simp only [go_sem]) (by simp only [go_sem]) (by simp only [go_sem]) ?_
     rintro r b ⟨m1, sA, hm1, hdA, rfl, rfl⟩
     rw [e1 m1]
     simp only [go_sem]
     refine CallU.boxes (i := 2) (is := []) (bx0 := [deckA l sA]) (hb2 sA hdA) (by simp only [go_sem]) (by simp only [go_sem]) (by simp only [go_sem]) (by simp only [go_sem]) (by simp only [go_sem]) ?_
     rintro r b ⟨m2, sB, hm2, hdB, rfl, rfl⟩
     rw [e1 m2]
     simp only [go_sem]
     exact meetT.intro _ (exactT.mk hm1 hm2 hdB) (by simp only [go_sem])
    ·simp only [go_sem]
     refine CallU.boxes (i := 2) (is := []) (bx0 := [deckA l s2]) (hb1 s2 hd_2) (by simp only [go_sem]) (by simp only [go_sem]) (by simp only [go_sem]) (by simp only [go_sem]) (by simp only [go_sem]) ?_
     rintro r b ⟨m1, sA, hm1, hdA, rfl, rfl⟩
     rw [e1 m1]
     simp only [go_sem]
     refine andK_mk ?_ ?_
     ·refine CallU.boxes (i := 2) (is := []) (bx0 := [deckA l sA]) (hb2 sA hdA) (by simp only [go_sem]) (by simp only [go_sem]) (by simp only [go_sem]) (by simp only [go_sem]) (by simp only [go_sem]) ?_
      rintro r b ⟨m2, sB, hm2, hdB, rfl, rfl⟩
      rw [e1 m2]
      simp only [go_sem]
      exact meetT.intro _ (exactT.mk hm1 hm2 hdB) (by simp only [go_sem])
     ·simp only [go_sem]
      refine CallU.boxes (i := 2) (is := []) (bx0 := [deckA l sA]) (hb2 sA hdA) (by simp only [go_sem]) (by simp only [go_sem]) (by simp only [go_sem]) (by simp only [go_sem]) (by simp only [go_sem]) ?_
      rintro r b ⟨m2, sB, hm2, hdB, rfl, rfl⟩
      rw [e1 m2]
      simp only [go_sem]
      exact meetT.intro _ (exactT.mk hm1 hm2 hdB) (by simp only [go_sem])
   ·simp only [go_sem]
    refine CallU.boxes (i := 2) (is := []) (bx0 := [deckA l s2]) (hb1 s2 hd_2) (by simp only [go_sem]) (by simp only [go_sem]) (by simp only [go_sem]) (by simp only [go_sem]) (by simp only [go_sem]) ?_
    rintro r b ⟨m1, sA, hm1, hdA, rfl, rfl⟩
    rw [e1 m1]
    simp only [go_sem]
    refine andK_mk ?_ ?_
    ·refine andK_mk ?_ ?_
     ·refine CallU.boxes (i := 2) (is := []) (bx0 := [deckA l sA]) (hb2 sA hdA) (by simp only [go_sem]) (by simp only [go_sem]) (by simp only [go_sem]) (by simp only [go_sem]) (by simp only [go_sem]) ?_
      rintro r b ⟨m2, sB, hm2, hdB, rfl, rfl⟩
      rw [e1 m2]
      simp only [go_sem]
      exact meetT.intro _ (exactT.mk hm1 hm2 hdB) (by simp only [go_sem])
     ·simp only [go_sem]
      refine CallU.boxes (i := 2) (is := []) (bx0 := [deckA l sA]) (hb2 sA hdA) (by simp only [go_sem]) (by simp only [go_sem]) (by simp only [go_sem]) (by simp only [go_sem]) (by simp only [go_sem]) ?_
      rintro r b ⟨m2, sB, hm2, hdB, rfl, rfl⟩
      rw [e1 m2]
      simp only [go_sem]
      exact meetT.intro _ (exactT.mk hm1 hm2 hdB) (by simp only [go_sem])
    ·simp only [go_sem]
     refine andK_mk ?_ ?_
     ·refine andK_mk ?_ ?_
      ·refine CallU.boxes (i := 2) (is := []) (bx0 := [deckA l sA]) (hb2 sA hdA) (by simp only [go_sem]) (by simp only [go_sem]) (by simp only [go_sem]) (by simp only [go_sem]) (by simp only [go_sem]) ?_
       rintro r b ⟨m2, sB, hm2, hdB, rfl, rfl⟩
       rw [e1 m2]
       simp only [go_sem]
       exact meetT.intro _ (exactT.mk hm1 hm2 hdB) (by simp only [go_sem])
      ·simp only [go_sem]
       refine CallU.boxes (i := 2) (is := []) (bx0 := [deckA l sA]) (hb2 sA hdA) (by simp only [go_sem]) (by simp only [go_sem]) (by simp only [go_sem]) (by simp only [go_sem]) (by simp only [go_sem]) ?_
       rintro r b ⟨m2, sB, hm2, hdB, rfl, rfl⟩
       rw [e1 m2]
       simp only [go_sem]
       exact meetT.intro _ (exactT.mk hm1 hm2 hdB) (by simp only [go_sem])
     ·simp only [go_sem]
      refine CallU.boxes (i := 2) (is := []) (bx0 := [deckA l sA]) (hb2 sA hdA) (by simp only [go_sem]) (by simp only [go_sem]) (by simp only [go_sem]) (by simp only [go_sem]) (by simp only [go_sem]) ?_
      rintro r b ⟨m2, sB, hm2, hdB, rfl, rfl⟩
      rw [e1 m2]
      simp only [go_sem]
      refine andK_mk ?_ ?_
      ·exact meetT.intro _ (exactT.mk hm1 hm2 hdB) (by simp only [go_sem])
      ·simp only [go_sem]
       exact meetT.intro _ (exactT.mk hm1 hm2 hdB) (by simp only [go_sem])
 rintro τ ⟨m1, m2, s3, hm1, hm2, hd_3, rfl⟩
 obtain ⟨Ms, hMs⟩ : ∃ Ms : List MD, Ms = [raw, own, m1, m2] := ⟨_, rfl⟩
 have hMk : ∀ m ∈ Ms, ModE m := by
  rw [hMs]
  intro m hm
  simp only [List.mem_cons, List.not_mem_nil, or_false] at hm
  rcases hm with rfl | rfl | rfl | rfl
  ·exact hraw'
  ·exact hE
  ·exact hm1
  ·exact hm2
 have hMl : Ms.length = 4 := by rw [hMs]; rfl
 simp only [go_sem]
 refine LoopK.freeze (fun _ => true) (fun p : Nat × List Nat × DS => ⟨226, [(3, vi state), (5, .pb 0 0), (6, .pb 1 0), (9, .pb 2 0), (11, .pb 3 0), (63, .sl 0 10 (Ms.map vM)), (64, vi 4), (65, vi p.1)],
   [vi raw.kind, .sl 0 1 (raw.states.map vStr), .sl 0 1 (raw.places.map vStr), .sl 0 1 (raw.letters.map vStr), vs 0 raw.ranks, vi raw.levels, vi raw.age, .sl 0 14 (raw.rules.map vRule), vi raw.start.n, .sl 0 2 (raw.start.kids.map vV)] :: [vi c.n, .sl 0 2 (c.kids.map vV)] :: deckA l p.2.2 :: [vi own.kind, .sl 0 1 (own.states.map vStr), .sl 0 1 (own.places.map vStr), .sl 0 1 (own.letters.map vStr), vs 0 own.ranks, vi own.levels, vi own.age, .sl 0 14 (own.rules.map vRule), vi own.start.n, .sl 0 2 (own.start.kids.map vV)] :: Jk p.2.1⟩)
  (fun p => 4 - p.1) (fun p => p.1 <= 4 /\ Dk l p.2.2) (0, [], s3) ⟨by simp, hd_3⟩ ?_ ?_
 ·rw [hMs]
  simp only [go_sem, List.map_cons, List.map_nil]
  exact leB_self _
 clear hMs
 rintro ⟨i, ks, s4⟩ ⟨hi, hd_4⟩
 simp only at hi hd_4
 have hB := Jk_len ks
 by_cases h : i < 4
 case neg =>
  have hie : i = 4 := by omega
  subst hie
  simp only [go_sem]
 have hiI : (i : Int) < 4 := by omega
 have hiM : i < Ms.length := by omega
 have hw1 : IntKind.i64.wrap (i + 1) = i + 1 := wrap_in (by omega) (by omega)
 have gm : (Ms.map vM)[i]? = some (vM Ms[i]!) := by rw [List.getElem?_map, List.getElem?_eq_getElem hiM, getElem!_pos Ms i hiM]; rfl
 have km := hMk _ (mem_bangI hiM)
 generalize Ms[i]! = m at gm km
 rw [e1 m] at gm
 simp only [go_sem] at gm
 have n0 := fun L : List (List AV) => app_at0 (L := L) hB
 have n1 := fun (L : List (List AV)) (i : Nat) => app_at (L := L) (i := i) hB
 have s0 := fun (L : List (List AV)) z => app_set0 (L := L) (z := z) hB
 have s1' := fun (L : List (List AV)) (i : Nat) z => app_setN (L := L) (i := i) (z := z) hB
 simp only [go_sem, hiI, gm, hB, n0, s0, hMl, List.length_map, List.length_cons, List.length_nil]
 have c1 := con_CheckG m km.len
 have c2 := con_rCheckG m km.len
 have c3 := con_SameG m own km.len hE.len
 have c4 := con_rSameG m own km.len hE.len
 have c5 := con_SameG m m km.len km.len
 rw [e1 m] at c1 c2 c5
 rw [e1 m, e1 own] at c3 c4
 rw [sameMD_self] at c5
 have q1 : (checkF m != checkF m) = false := by simp
 have q2 : (sameMD m own != sameMD m own) = false := by simp
 refine DrawK.walk 20 mixed (by kernel_rfl) ?_
 simp only [go_sem, n0, List.length_cons, List.length_nil]
 refine CallY.mk c1 (by simp only [go_sem]) (by simp only [go_sem]) (.inl (by simp only [go_sem])) ?_
 simp only [go_sem, n0, List.length_cons, List.length_nil]
 refine CallY.mk c2 (by simp only [go_sem]) (by simp only [go_sem]) (.inl (by simp only [go_sem])) ?_
 simp only [go_sem, n0, List.length_cons, List.length_nil, q1]
 refine CallY.mk c3 (by simp only [go_sem]) (by simp only [go_sem]) (.inl (by simp only [go_sem])) ?_
 simp only [go_sem, n0, List.length_cons, List.length_nil]
 refine CallY.mk c4 (by simp only [go_sem]) (by simp only [go_sem]) (.inl (by simp only [go_sem])) ?_
 simp only [go_sem, n0, List.length_cons, List.length_nil]
 refine CallY.mk c5 (by simp only [go_sem]) (by simp only [go_sem]) (.inl (by simp only [go_sem])) ?_
 simp only [go_sem, n0, List.length_cons, List.length_nil]
 have t1 := con_TypeG m km.len
 have t2 := con_rTypeG m km.len
 have t3 := con_ltypes (typeF m) (typeF_ok km.len)
 rw [e1 m, vT_eq] at t1 t2
 rw [vT_eq] at t3
 have x1 := con_MatrixP m km.len
 have x2 := con_rMatrixG m km.len
 have hml := matF_len km.len
 have x3 := con_rsameAllM (matF m).1 hml.1 hml.2
 rw [e1 m] at x1 x2
 unfold vmT at x1 x2
 have q3 : ((matF m).2 != (matF m).2) = false := by simp
 refine CallU.free t1 (by simp only [go_sem]) (by simp only [go_sem]) ?_
 rintro r b rfl
 simp only [go_sem, n0, n1, s1', hB, List.append_assoc, List.cons_append, List.nil_append, List.length_append, List.length_cons, List.length_nil]
 refine CallU.free t2 (by simp only [go_sem]) (by simp only [go_sem]) ?_
 rintro r b rfl
 simp only [go_sem, n1, s1', hB, List.append_assoc, List.cons_append, List.nil_append, List.length_append, List.length_cons, List.length_nil, q1]
 refine CallU.free t3 (by simp only [go_sem]) (by simp only [go_sem]) ?_
 rintro r b rfl
 simp only [go_sem, n0, List.length_cons, List.length_nil]
 refine CallU.free x1 (by simp only [go_sem]) (by simp only [go_sem]) ?_
 rintro r b rfl
 simp only [go_sem, n0, List.length_cons, List.length_nil]
 refine CallU.free x2 (by simp only [go_sem]) (by simp only [go_sem]) ?_
 rintro r b rfl
 simp only [go_sem, q3]
 refine CallU.free x3 (by simp only [go_sem]) (by simp only [go_sem]) ?_
 rintro r b rfl
 simp only [go_sem]
 have hcf := (con_dConfigX l s4 own hO hd_4).leA (args' := [.pb 0 0, .ag [vi own.kind, .sl 0 1 (own.states.map vStr), .sl 0 1 (own.places.map vStr), .sl 0 1 (own.letters.map vStr), vs 0 own.ranks, vi own.levels, vi own.age, .sl 0 14 (own.rules.map vRule), vi own.start.n, .sl 0 2 (own.start.kids.map vV)]]) ⟨leV_refl _, leV_ag ⟨leV_refl _, leV_refl _, leV_refl _, leV_refl _, leV_refl _, leV_refl _, leV_refl _, leV_any _, leV_any _, leV_any _, trivial⟩, trivial⟩
 have hvs := valF_slim (l := l) (s := s4) (t := typeM own) (type_ok hO.size.1 hO.size.2)
 have hvk := valF_kids (l := l) (s := s4) (t := typeM own) (type_right hO)
 have hd_5 := valF_dk (l := l) (s := s4) (t := typeM own) hd_4
 generalize valF l s4 (typeM own) = q at hcf hvs hvk hd_5
 obtain ⟨c2, s5⟩ := q
 simp only at hcf hvs hvk hd_5
 refine DrawK.weaken (τ := ⟨226, [(3, vi state), (5, .pb 0 0), (6, .pb 1 0), (9, .pb 2 0), (11, .pb 3 0), (63, .sl 0 10 (Ms.map vM)), (64, vi 4), (65, vi i), (13, .pb (ks.length + 1 + 1 + 1 + 1) 0)], [vi raw.kind, .sl 0 1 (raw.states.map vStr), .sl 0 1 (raw.places.map vStr), .sl 0 1 (raw.letters.map vStr), vs 0 raw.ranks, vi raw.levels, vi raw.age, .sl 0 14 (raw.rules.map vRule), vi raw.start.n, .sl 0 2 (raw.start.kids.map vV)] :: [vi c.n, .sl 0 2 (c.kids.map vV)] :: deckA l s4 :: [vi own.kind, .sl 0 1 (own.states.map vStr), .sl 0 1 (own.places.map vStr), .sl 0 1 (own.letters.map vStr), vs 0 own.ranks, vi own.levels, vi own.age, .sl 0 14 (own.rules.map vRule), vi own.start.n, .sl 0 2 (own.start.kids.map vV)] :: (Jk ks ++ ([vi m.kind, .sl 0 1 (m.states.map vStr), .sl 0 1 (m.places.map vStr), .sl 0 1 (m.letters.map vStr), vs 0 m.ranks, vi m.levels, vi m.age, .sl 0 14 (m.rules.map vRule), vi m.start.n, .sl 0 2 (m.start.kids.map vV)] :: Jk [4, 4]))⟩) ?_ ?_
 case refine_2 =>
  simp only [go_sem]
  exact leB_app (leB_self _) ⟨leC_self _, ⟨leV_any _, leV_any _, leV_any _, leV_any _, trivial⟩, ⟨leV_any _, leV_any _, leV_any _, leV_any _, trivial⟩, trivial⟩
 refine DrawK.effs0 2 [3] [] 9 .done none (deckA l s4) mixed (by kernel_rfl) (by kernel_rfl) (by simp only [go_sem]) (by simp only [go_sem]) ?_
 simp only [go_sem, hB, List.length_append, List.length_cons, List.length_nil]
 refine EffK.mk hcf (by simp only [go_sem]) (by simp only [go_sem]) (by simp only [go_sem]) (by simp only [go_sem]) ?_
 simp only [go_sem, n0, List.length_cons, List.length_nil]
 refine andK_mk ?_ trivial
 obtain ⟨Vs, hVs⟩ : ∃ Vs : List CV, Vs = [c, c2, m.start] := ⟨_, rfl⟩
 have hVk : ∀ v ∈ Vs, v.Slim /\ v.kids.length <= 1000 := by
  rw [hVs]
  intro v hv
  simp only [List.mem_cons, List.not_mem_nil, or_false] at hv
  rcases hv with rfl | rfl | rfl
  ·exact ⟨hcs.1, by omega⟩
  ·exact ⟨hvs, hvk⟩
  ·exact ⟨km.slim, km.kids⟩
 have hVl : Vs.length = 3 := by rw [hVs]; rfl
 refine LoopK.freeze (fun _ => true) (fun p : Nat × List Nat => ⟨226, [(3, vi state), (5, .pb 0 0), (6, .pb 1 0), (9, .pb 2 0), (11, .pb 3 0), (63, .sl 0 10 (Ms.map vM)), (64, vi 4), (65, vi i), (13, .pb (ks.length + 1 + 1 + 1 + 1) 0), (133, .sl 0 2 (Vs.map vV)), (134, vi 3), (135, vi p.1)],
   [vi raw.kind, .sl 0 1 (raw.states.map vStr), .sl 0 1 (raw.places.map vStr), .sl 0 1 (raw.letters.map vStr), vs 0 raw.ranks, vi raw.levels, vi raw.age, .sl 0 14 (raw.rules.map vRule), vi raw.start.n, .sl 0 2 (raw.start.kids.map vV)] :: [vi c.n, .sl 0 2 (c.kids.map vV)] :: deckA l s5 :: [vi own.kind, .sl 0 1 (own.states.map vStr), .sl 0 1 (own.places.map vStr), .sl 0 1 (own.letters.map vStr), vs 0 own.ranks, vi own.levels, vi own.age, .sl 0 14 (own.rules.map vRule), vi own.start.n, .sl 0 2 (own.start.kids.map vV)] :: (Jk ks ++ ([vi m.kind, .sl 0 1 (m.states.map vStr), .sl 0 1 (m.places.map vStr), .sl 0 1 (m.letters.map vStr), vs 0 m.ranks, vi m.levels, vi m.age, .sl 0 14 (m.rules.map vRule), vi m.start.n, .sl 0 2 (m.start.kids.map vV)] :: Jk p.2))⟩)
  (fun p => 3 - p.1) (fun p => p.1 <= 3) (0, [4, 4]) (by show 0 <= 3; omega) ?_ ?_
 ·rw [hVs]
  simp only [go_sem, List.map_cons, List.map_nil, vV_eq c, vV_eq c2, vV_eq m.start]
 clear hVs
 rintro ⟨j, ds⟩ hj
 simp only at hj
 have hD := Jk_len ds
 by_cases h2 : j < 3
 case neg =>
  have hje : j = 3 := by omega
  subst hje
  simp only [go_sem, hw1]
  refine roundK.freeze (fun _ => true) (i + 1, ks ++ (10 :: ds), s5) ⟨by show i + 1 <= 4; omega, hd_5⟩ (by show 4 - (i + 1) < 4 - i; omega) ?_
  simp only [go_sem]
  exact leB_JkA ⟨⟨leV_any _, leV_any _, leV_any _, leV_any _, leV_any _, leV_any _, leV_any _, leV_any _, leV_any _, leV_any _, trivial⟩, leB_self _⟩
 have hjI : (j : Int) < 3 := by omega
 have hjV : j < Vs.length := by omega
 have hw2 : IntKind.i64.wrap (j + 1) = j + 1 := wrap_in (by omega) (by omega)
 have gv := getvV hjV
 have kv := hVk _ (mem_bangI hjV)
 generalize Vs[j]! = v at gv kv
 simp only [go_sem] at gv
 have d0 := fun L : List (List AV) => app_at0 (L := L) hD
 have d1 := fun (L : List (List AV)) (i : Nat) => app_at (L := L) (i := i) hD
 have e0 := fun (L : List (List AV)) z => app_set0 (L := L) (z := z) hD
 have e2 := fun (L : List (List AV)) (i : Nat) z => app_setN (L := L) (i := i) (z := z) hD
 have k1 := con_StateG m v km.len kv.1.ok
 have k2 := con_rStateG m v km.len kv.1.ok
 have k3 := con_ConfigP m state v.kids km.len kv.2 fun x hx => kv.1.kid hx
 have k4 := con_rConfigG m state v.kids km.len kv.2 fun x hx => kv.1.kid hx
 have k5 := confR_slim (m := m) (s := state) kv.2 fun x hx => kv.1.kid hx
 have k6 := con_ValidG m v km.len kv.1.ok
 have k7 := con_rValidG m v km.len kv.1.ok
 rw [conf_same] at k3
 rw [e1 m, vV_eq] at k1 k2 k6 k7
 rw [e1 m] at k3 k4
 unfold vrow at k3 k4
 generalize confR m state v.kids = p at k3 k4 k5
 have k8 := con_rsameV p.1 p.1 k5.ok k5.ok
 rw [cmpV_self, vV_eq] at k8
 have q4 : ((stateF m v).2 != (stateF m v).2) = false := by simp
 have q5 : ((stateF m v).1 != (stateF m v).1) = false := by simp
 have q6 : (p.2 != p.2) = false := by simp
 have q7 : (confG m v != confG m v) = false := by simp
 simp only [go_sem, n0, n1, s1', hB, hD, d0, e0, List.append_assoc, List.cons_append, List.length_append, List.length_cons, List.length_nil, hjI, gv, hVl, List.length_map]
 refine CallU.free k1 (by simp only [go_sem]) (by simp only [go_sem]) ?_
 rintro r b rfl
 simp only [go_sem, n0, n1, d0, List.length_cons, List.length_nil]
 refine CallU.free k2 (by simp only [go_sem]) (by simp only [go_sem]) ?_
 rintro r b rfl
 simp only [go_sem, n0, n1, d0, List.length_cons, List.length_nil]
 refine CallU.free k3 (by simp only [go_sem]) (by simp only [go_sem]) ?_
 rintro r b rfl
 simp only [go_sem, n0, n1, s1', hB, hD, d0, d1, e2, List.append_assoc, List.cons_append, List.nil_append, List.length_append, List.length_cons, List.length_nil]
 refine CallU.free k4 (by simp only [go_sem]) (by simp only [go_sem]) ?_
 rintro r b rfl
 simp only [go_sem, n1, s1', hB, hD, d1, e2, List.append_assoc, List.cons_append, List.nil_append, List.length_append, List.length_cons, List.length_nil]
 refine DrawK.walk 28 mixed (by kernel_rfl) ?_
 simp only [go_sem, n1, d1, List.length_cons, List.length_nil, q4, q5, q6]
 refine CallY.mk k8 (by simp only [go_sem]) (by simp only [go_sem]) (.inl (by simp only [go_sem])) ?_
 simp only [go_sem, n0, n1, d0, List.length_cons, List.length_nil]
 refine CallY.mk k6 (by simp only [go_sem]) (by simp only [go_sem]) (.inl (by simp only [go_sem])) ?_
 simp only [go_sem, n0, n1, d0, List.length_cons, List.length_nil]
 refine CallY.mk k7 (by simp only [go_sem]) (by simp only [go_sem]) (.inl (by simp only [go_sem])) ?_
 simp only [go_sem, n1, d0]
 by_cases hv : 0 < v.kids.length
 case neg =>
  simp only [go_sem, hv, hw2]
  refine roundK.freeze (fun _ => true) (j + 1, ds ++ [2, 2, 2]) (by show j + 1 <= 3; omega) (by show 3 - (j + 1) < 3 - j; omega) ?_
  simp only [go_sem]
  exact leB_app (leB_self _) ⟨leC_self _, leB_JkA ⟨⟨leV_any _, leV_any _, trivial⟩, ⟨leV_any _, leV_any _, trivial⟩, ⟨leV_any _, leV_any _, trivial⟩, trivial⟩⟩
 simp only [go_sem, hv]
 have hrl : (v.kids.drop 1).length <= 1000 := by rw [List.length_drop]; omega
 have hrs : ∀ x ∈ v.kids.drop 1, x.Slim := fun x hx => kv.1.kid (List.mem_of_mem_drop hx)
 have eD : List.drop 1 (List.take v.kids.length (v.kids.map vV)) = (v.kids.drop 1).map vV := by rw [List.take_of_length_le (by simp), List.map_drop]
 have k9 := con_ConfigP m 0 (v.kids.drop 1) km.len hrl hrs
 have ka := con_rConfigG m 0 (v.kids.drop 1) km.len hrl hrs
 have kb := confR_slim (m := m) (s := 0) hrl hrs
 rw [conf_same] at k9
 rw [e1 m] at k9 ka
 unfold vrow at k9 ka
 generalize confR m 0 (v.kids.drop 1) = p2 at k9 ka kb
 have kc := con_rsameV p2.1 p2.1 kb.ok kb.ok
 rw [cmpV_self, vV_eq] at kc
 have q8 : (p2.2 != p2.2) = false := by simp
 have hv1 : 1 <= v.kids.length := hv
 refine DrawK.weaken (τ := ⟨226, [(3, vi state), (5, .pb 0 0), (6, .pb 1 0), (9, .pb 2 0), (11, .pb 3 0), (63, .sl 0 10 (Ms.map vM)), (64, vi 4), (65, vi i), (13, .pb (ks.length + 1 + 1 + 1 + 1) 0), (133, .sl 0 2 (Vs.map vV)), (134, vi 3), (135, vi j), (21, .pb (ks.length + (ds.length + 1) + 1 + 1 + 1 + 1) 0), (26, .pb (ks.length + (ds.length + 1 + 1) + 1 + 1 + 1 + 1) 0), (28, .pb (ks.length + (ds.length + 1 + 1 + 1) + 1 + 1 + 1 + 1) 0)], [vi raw.kind, .sl 0 1 (raw.states.map vStr), .sl 0 1 (raw.places.map vStr), .sl 0 1 (raw.letters.map vStr), vs 0 raw.ranks, vi raw.levels, vi raw.age, .sl 0 14 (raw.rules.map vRule), vi raw.start.n, .sl 0 2 (raw.start.kids.map vV)] :: [vi c.n, .sl 0 2 (c.kids.map vV)] :: deckA l s5 :: [vi own.kind, .sl 0 1 (own.states.map vStr), .sl 0 1 (own.places.map vStr), .sl 0 1 (own.letters.map vStr), vs 0 own.ranks, vi own.levels, vi own.age, .sl 0 14 (own.rules.map vRule), vi own.start.n, .sl 0 2 (own.start.kids.map vV)] :: (Jk ks ++ ([vi m.kind, .sl 0 1 (m.states.map vStr), .sl 0 1 (m.places.map vStr), .sl 0 1 (m.letters.map vStr), vs 0 m.ranks, vi m.levels, vi m.age, .sl 0 14 (m.rules.map vRule), vi m.start.n, .sl 0 2 (m.start.kids.map vV)] :: (Jk ds ++ [[vi v.n, .sl 0 2 (v.kids.map vV)], [vi p.1.n, .sl 0 2 (p.1.kids.map vV)], [vi p.1.n, .sl 0 2 (p.1.kids.map vV)]])))⟩) ?_ ?_
 case refine_2 => simp only [go_sem]
 refine DrawK.meet ⟨226, [(3, vi state), (5, .pb 0 0), (6, .pb 1 0), (9, .pb 2 0), (11, .pb 3 0), (63, .sl 0 10 (Ms.map vM)), (64, vi 4), (65, vi i), (13, .pb (ks.length + 1 + 1 + 1 + 1) 0), (133, .sl 0 2 (Vs.map vV)), (134, vi 3), (135, vi j), (21, .pb (ks.length + (ds.length + 1) + 1 + 1 + 1 + 1) 0), (26, .pb (ks.length + (ds.length + 1 + 1) + 1 + 1 + 1 + 1) 0), (28, .pb (ks.length + (ds.length + 1 + 1 + 1) + 1 + 1 + 1 + 1) 0), (27, vi p2.2)], [vi raw.kind, .sl 0 1 (raw.states.map vStr), .sl 0 1 (raw.places.map vStr), .sl 0 1 (raw.letters.map vStr), vs 0 raw.ranks, vi raw.levels, vi raw.age, .sl 0 14 (raw.rules.map vRule), vi raw.start.n, .sl 0 2 (raw.start.kids.map vV)] :: [vi c.n, .sl 0 2 (c.kids.map vV)] :: deckA l s5 :: [vi own.kind, .sl 0 1 (own.states.map vStr), .sl 0 1 (own.places.map vStr), .sl 0 1 (own.letters.map vStr), vs 0 own.ranks, vi own.levels, vi own.age, .sl 0 14 (own.rules.map vRule), vi own.start.n, .sl 0 2 (own.start.kids.map vV)] :: (Jk ks ++ ([vi m.kind, .sl 0 1 (m.states.map vStr), .sl 0 1 (m.places.map vStr), .sl 0 1 (m.letters.map vStr), vs 0 m.ranks, vi m.levels, vi m.age, .sl 0 14 (m.rules.map vRule), vi m.start.n, .sl 0 2 (m.start.kids.map vV)] :: (Jk ds ++ [[vi v.n, .sl 0 2 (v.kids.map vV)], [vi p2.1.n, .sl 0 2 (p2.1.kids.map vV)], [vi p.1.n, .sl 0 2 (p.1.kids.map vV)]])))⟩ ?_ ?_
 ·refine DrawK.effs0 0 [] [] 8 (.one 8 (.one 9 .done)) (some (7, .alt (.one 7 (.one 8 (.one 9 .done))) (.one 8 (.one 7 (.one 9 .done))))) [vi raw.kind, .sl 0 1 (raw.states.map vStr), .sl 0 1 (raw.places.map vStr), .sl 0 1 (raw.letters.map vStr), vs 0 raw.ranks, vi raw.levels, vi raw.age, .sl 0 14 (raw.rules.map vRule), vi raw.start.n, .sl 0 2 (raw.start.kids.map vV)] mixed (by kernel_rfl) (by kernel_rfl) (by simp only [go_sem]) (by simp only [go_sem]) ?_
  simp only [go_sem, n0, n1, hB, hD, d0, List.length_append, List.length_cons, List.length_nil, List.length_map, eD]
  refine ⟨hv1, Nat.le_refl _, CallY.mk k9 (by simp only [go_sem]) (by simp only [go_sem]) (.inl (by simp only [go_sem])) ?_⟩
  simp only [go_sem, n1, s1', d1, e2, List.length_cons, List.length_nil]
  repeat' (first | with_reducible apply andK_mk | exact trivial | simp only [go_sem, n0, n1, s0, s1', hB, hD, d0, d1, e0, e2, List.append_assoc, List.cons_append, List.nil_append, List.length_append, List.length_cons, List.length_nil])
 simp only [go_sem]
 refine DrawK.meet ⟨226, [(3, vi state), (5, .pb 0 0), (6, .pb 1 0), (9, .pb 2 0), (11, .pb 3 0), (63, .sl 0 10 (Ms.map vM)), (64, vi 4), (65, vi i), (13, .pb (ks.length + 1 + 1 + 1 + 1) 0), (133, .sl 0 2 (Vs.map vV)), (134, vi 3), (135, vi j), (21, .pb (ks.length + (ds.length + 1) + 1 + 1 + 1 + 1) 0), (26, .pb (ks.length + (ds.length + 1 + 1) + 1 + 1 + 1 + 1) 0), (28, .pb (ks.length + (ds.length + 1 + 1 + 1) + 1 + 1 + 1 + 1) 0), (27, vi p2.2), (29, vi p2.2)], [vi raw.kind, .sl 0 1 (raw.states.map vStr), .sl 0 1 (raw.places.map vStr), .sl 0 1 (raw.letters.map vStr), vs 0 raw.ranks, vi raw.levels, vi raw.age, .sl 0 14 (raw.rules.map vRule), vi raw.start.n, .sl 0 2 (raw.start.kids.map vV)] :: [vi c.n, .sl 0 2 (c.kids.map vV)] :: deckA l s5 :: [vi own.kind, .sl 0 1 (own.states.map vStr), .sl 0 1 (own.places.map vStr), .sl 0 1 (own.letters.map vStr), vs 0 own.ranks, vi own.levels, vi own.age, .sl 0 14 (own.rules.map vRule), vi own.start.n, .sl 0 2 (own.start.kids.map vV)] :: (Jk ks ++ ([vi m.kind, .sl 0 1 (m.states.map vStr), .sl 0 1 (m.places.map vStr), .sl 0 1 (m.letters.map vStr), vs 0 m.ranks, vi m.levels, vi m.age, .sl 0 14 (m.rules.map vRule), vi m.start.n, .sl 0 2 (m.start.kids.map vV)] :: (Jk ds ++ [[vi v.n, .sl 0 2 (v.kids.map vV)], [vi p2.1.n, .sl 0 2 (p2.1.kids.map vV)], [vi p2.1.n, .sl 0 2 (p2.1.kids.map vV)]])))⟩ ?_ ?_
 ·refine DrawK.effs0 0 [] [] 8 (.one 8 (.one 9 .done)) (some (7, .alt (.one 7 (.one 8 (.one 9 .done))) (.one 8 (.one 7 (.one 9 .done))))) [vi raw.kind, .sl 0 1 (raw.states.map vStr), .sl 0 1 (raw.places.map vStr), .sl 0 1 (raw.letters.map vStr), vs 0 raw.ranks, vi raw.levels, vi raw.age, .sl 0 14 (raw.rules.map vRule), vi raw.start.n, .sl 0 2 (raw.start.kids.map vV)] mixed (by kernel_rfl) (by kernel_rfl) (by simp only [go_sem]) (by simp only [go_sem]) ?_
  simp only [go_sem, n0, n1, hB, hD, d0, List.length_append, List.length_cons, List.length_nil, List.length_map, eD]
  refine ⟨hv1, Nat.le_refl _, CallY.mk ka (by simp only [go_sem]) (by simp only [go_sem]) (.inl (by simp only [go_sem])) ?_⟩
  simp only [go_sem, n1, s1', d1, e2, List.length_cons, List.length_nil]
  repeat' (first | with_reducible apply andK_mk | exact trivial | simp only [go_sem, n0, n1, s0, s1', hB, hD, d0, d1, e0, e2, List.append_assoc, List.cons_append, List.nil_append, List.length_append, List.length_cons, List.length_nil])
 simp only [go_sem, n1, d1, List.length_cons, List.length_nil, q8]
 refine CallU.free kc (by simp only [go_sem]) (by simp only [go_sem]) ?_
 rintro r b rfl
 simp only [go_sem, hw2]
 refine roundK.freeze (fun _ => true) (j + 1, ds ++ [2, 2, 2]) (by show j + 1 <= 3; omega) (by show 3 - (j + 1) < 3 - j; omega) ?_
 simp only [go_sem]
 exact leB_app (leB_self _) ⟨leC_self _, leB_JkA ⟨⟨leV_any _, leV_any _, trivial⟩, ⟨leV_any _, leV_any _, trivial⟩, ⟨leV_any _, leV_any _, trivial⟩, trivial⟩⟩
end Go.AM
namespace Go.AM
open Go.ChangeShapes Go.WideShapes Go.ChangeAt Go.RowKit
section
variable {H : Type} {enc : TypeId × Value -> H} {P : Program} {w : World} {base : Nat} {spare : Nat -> Bool} {held : Bool}
def strD : DataW H -> ByteArray
 | .lit (.string bs) => ⟨bs.toArray⟩
 | _ => ByteArray.empty
theorem str_reads {e : TypeId} {fuel : Nat} {cs : List Value} {d : DataW H} {ps : List MemPlace} (he : P.underlying e = some .string) (h : DataW.trod enc P w base spare held fuel e cs = some (d, ps)) :
  ∃ v, cs = [v] /\ Reads w [.sc (.string (strD d))] [v] /\ (strD d).size <= maxLen := by
 obtain ⟨s, e0, e1, h2⟩ := DataW.trod_string he h
 subst e0
 simp only [Prod.mk.injEq] at e1
 obtain ⟨rfl, _⟩ := e1
 have e : strD (.lit (.string s.data.toList) : DataW H) = s := by cases s; simp [strD]
 rw [e]
 exact ⟨_, rfl, .of (.sc _) rfl, h2⟩
def intsOf (d : DataW H) : List Int := (elemsOf d).map numI
theorem ints_reads {t e : TypeId} {n : Nat} {cs : List Value} {d : DataW H} {ps : List MemPlace} (ht : P.underlying t = some (.slice e)) (he : P.underlying e = some (.int .i64)) (hc : P.cellsOf e = 1) (h : DataW.trod enc P w base spare held n t cs = some (d, ps)) :
  ∃ v, cs = [v] /\ Reads w [.sl 0 1 ((intsOf d).map fun x => .sc (.int .i64 x))] [v] /\ (intsOf d).length <= 9223372036854775807 := by
 obtain ⟨v, e, r, hl, _⟩ := slice_reads (g := fun x => .sc (.int .i64 (numI x))) ht hc (by omega) h fun y hy k cs'' ps'' h'' => by
  obtain ⟨u, rfl, r⟩ := int_reads he h''
  exact r
 have e2 : (elemsOf d).map (fun x => AV.sc (.int .i64 (numI x))) = (intsOf d).map fun x => .sc (.int .i64 x) := by simp [intsOf]
 rw [e2] at r
 exact ⟨v, e, r, by unfold intsOf; rw [List.length_map]; exact hl⟩
def strsOf (d : DataW H) : List ByteArray := (elemsOf d).map strD
theorem strs_reads {t e : TypeId} {n : Nat} {cs : List Value} {d : DataW H} {ps : List MemPlace} (ht : P.underlying t = some (.slice e)) (he : P.underlying e = some .string) (hc : P.cellsOf e = 1) (h : DataW.trod enc P w base spare held n t cs = some (d, ps)) :
  ∃ v, cs = [v] /\ Reads w [.sl 0 1 ((strsOf d).map fun x => .sc (.string x))] [v] /\ (strsOf d).length <= 9223372036854775807 /\ ∀ s ∈ strsOf d, s.size <= maxLen := by
 obtain ⟨v, e, r, hl, hex⟩ := slice_reads (g := fun x => .sc (.string (strD x))) ht hc (by omega) h fun y hy k cs'' ps'' h'' => by
  obtain ⟨u, rfl, r, _⟩ := str_reads he h''
  exact r
 have e2 : (elemsOf d).map (fun x => AV.sc (.string (strD x))) = (strsOf d).map fun x => .sc (.string x) := by simp [strsOf]
 rw [e2] at r
 refine ⟨v, e, r, by unfold strsOf; rw [List.length_map]; exact hl, fun s hs => ?_⟩
 obtain ⟨x, hx, rfl⟩ := List.mem_map.1 hs
 obtain ⟨k, cs', ps', h'⟩ := hex x hx
 obtain ⟨_, _, _, hm⟩ := str_reads he h'
 exact hm
theorem struct_reads {e : TypeId} {fs : Array Field} {n fuel : Nat} {cs : List Value} {d : DataW H} {ps : List MemPlace} (he : P.underlying e = some (.struct fs)) (ce : P.cellsOf e = n) (h : DataW.trod enc P w base spare held fuel e cs = some (d, ps)) :
  ∃ (ds : List (DataW H)) (m : Nat), d = .agg ds /\ cs.length = n /\ ds.length = fs.size /\ ∀ (i : Nat) (f : Field), fs[i]? = some f -> ∃ x p, ds[i]? = some x /\ DataW.trod enc P w base spare held m f.type ((cs.drop f.offset).take (P.cellsOf f.type)) = some (x, p) := by
 obtain ⟨xs, m, _, e1, hl, hlen, hf⟩ := DataW.trod_struct he h
 simp only [Prod.mk.injEq] at e1
 refine ⟨xs.map (·.1), m, e1.1, by rw [hl, ce], by rw [List.length_map]; exact hlen, fun i f hi => ?_⟩
 have := hf i f hi
 have hi' : i < xs.length := by rw [hlen]; exact (Array.getElem?_eq_some_iff.1 hi).1
 rw [List.getElem?_eq_getElem hi'] at this
 exact ⟨xs[i].1, xs[i].2, by rw [List.getElem?_map, List.getElem?_eq_getElem hi']; rfl, this⟩
theorem field1 {fs : Array Field} {cs : List Value} {ds : List (DataW H)} {m : Nat} (hf : ∀ (i : Nat) (f : Field), fs[i]? = some f -> ∃ x p, ds[i]? = some x /\ DataW.trod enc P w base spare held m f.type ((cs.drop f.offset).take (P.cellsOf f.type)) = some (x, p))
  (i : Nat) {f : Field} {c : Value} {x : DataW H} (h1 : fs[i]? = some f) (h2 : P.cellsOf f.type = 1) (h3 : cs[f.offset]? = some c) (h4 : ds[i]? = some x) : ∃ p, DataW.trod enc P w base spare held m f.type [c] = some (x, p) := by
 obtain ⟨y, p, e, h⟩ := hf i f h1
 rw [h4] at e
 cases e
 have hlt := (List.getElem?_eq_some_iff.1 h3).1
 have e2 := (List.getElem?_eq_some_iff.1 h3).2
 rw [h2, List.drop_eq_getElem_cons hlt, List.take_succ_cons, List.take_zero, e2] at h
 exact ⟨p, h⟩
theorem list3 {α : Type} {l : List α} (h : l.length = 3) : ∃ a b c, l = [a, b, c] := by
 match l, h with
 | [a, b, c], _ => exact ⟨a, b, c, rfl⟩
theorem list5 {α : Type} {l : List α} (h : 5 <= l.length) : ∃ a b c d e r, l = a :: b :: c :: d :: e :: r := by
 match l, h with
 | a :: b :: c :: d :: e :: r, _ => exact ⟨a, b, c, d, e, r, rfl⟩
theorem list9 {α : Type} {l : List α} (h : l.length = 9) : ∃ a b c d e f g i j, l = [a, b, c, d, e, f, g, i, j] := by
 obtain ⟨a, b, c, d, e, r, rfl⟩ := list5 (by omega : 5 <= l.length)
 match r, (by simpa using h : r.length = 4) with
 | [f, g, i, j], _ => exact ⟨a, b, c, d, e, f, g, i, j, rfl⟩
theorem list10 {α : Type} {l : List α} (h : l.length = 10) : ∃ a b c d e f g i j k, l = [a, b, c, d, e, f, g, i, j, k] := by
 obtain ⟨a, b, c, d, e, r, rfl⟩ := list5 (by omega : 5 <= l.length)
 obtain ⟨f, g, i, j, k, r, rfl⟩ := list5 (by simp at h; omega : 5 <= r.length)
 have : r = [] := by simpa using h
 subst this
 exact ⟨a, b, c, d, e, f, g, i, j, k, rfl⟩
theorem list14 {α : Type} {l : List α} (h : l.length = 14) : ∃ a b c d e f g i j k m n o p, l = [a, b, c, d, e, f, g, i, j, k, m, n, o, p] := by
 obtain ⟨a, b, c, d, e, r, rfl⟩ := list5 (by omega : 5 <= l.length)
 obtain ⟨f, g, i, j, k, r, rfl⟩ := list5 (by simp at h; omega : 5 <= r.length)
 match r, (by simpa using h : r.length = 4) with
 | [m, n, o, p], _ => exact ⟨a, b, c, d, e, f, g, i, j, k, m, n, o, p, rfl⟩
end
end Go.AM
namespace Go.AM
open Go.Proofs Go.ChangeShapes Go.WideShapes Go.ChangeAt Go.RowKit
section
variable {H : Type} {enc : TypeId × Value -> H} {w : World} {base : Nat} {spare : Nat -> Bool} {held : Bool}
mutual
def cvOf : DataW H -> CV
 | .agg parts => cvAgg parts
 | _ => .mk 0 []
def cvAgg : List (DataW H) -> CV
 | [d0, d1] => .mk (numI d0) (cvKids d1)
 | _ => .mk 0 []
def cvKids : DataW H -> List CV
 | .slice l _ => cvList l
 | _ => []
def cvList : List (DataW H) -> List CV
 | [] => []
 | d :: l => cvOf d :: cvList l
end
theorem cvList_map : ∀ l : List (DataW H), cvList l = l.map cvOf
 | [] => by rw [cvList]; rfl
 | d :: l => by rw [cvList, cvList_map l]; rfl
theorem cvKids_eq (d : DataW H) : cvKids d = (elemsOf d).map cvOf := by
 cases d <;> simp only [cvKids, elemsOf, cvList_map, List.map_nil]
def takeOf (d : DataW H) : Int × Int × Int := match partsOf d with
 | [d0, d1, d2] => (numI d0, numI d1, numI d2)
 | _ => (0, 0, 0)
def ruleOf (d : DataW H) : RD := match partsOf d with
 | [d0, d1, d2, d3, d4, d5, d6, d7, d8, d9, d10, d11, d12, d13] => ⟨strD d0, numI d1, numI d2, intsOf d3, intsOf d4, intsOf d5, numI d6, numI d7, numI d8, intsOf d9, intsOf d10, (elemsOf d11).map takeOf, intsOf d12, numI d13⟩
 | _ => ⟨ByteArray.empty, 0, 0, [], [], [], 0, 0, 0, [], [], [], [], 0⟩
def modOf (d : DataW H) : MD := match partsOf d with
 | [d0, d1, d2, d3, d4, d5, d6, d7, d8] => ⟨numI d0, strsOf d1, strsOf d2, strsOf d3, intsOf d4, numI d5, numI d6, (elemsOf d7).map ruleOf, cvOf d8⟩
 | _ => ⟨0, [], [], [], [], 0, 0, [], .mk 0 []⟩
theorem cellsTake : Tryz.prog.cellsOf 92 = 3 := by kernel_rfl
theorem cellsRule : Tryz.prog.cellsOf 66 = 14 := by kernel_rfl
theorem cellsModel : Tryz.prog.cellsOf 29 = 10 := by kernel_rfl
theorem cellsValue : Tryz.prog.cellsOf 27 = 2 := by kernel_rfl
theorem cells3' : Tryz.prog.cellsOf 3 = 1 := by kernel_rfl
theorem cells9' : Tryz.prog.cellsOf 9 = 1 := by kernel_rfl
theorem cells22' : Tryz.prog.cellsOf 22 = 1 := by kernel_rfl
theorem cells23' : Tryz.prog.cellsOf 23 = 1 := by kernel_rfl
theorem cells24' : Tryz.prog.cellsOf 24 = 1 := by kernel_rfl
theorem cells25' : Tryz.prog.cellsOf 25 = 1 := by kernel_rfl
theorem cells64' : Tryz.prog.cellsOf 64 = 1 := by kernel_rfl
theorem take_reads {n : Nat} {cs : List Value} {d : DataW H} {ps : List MemPlace} (h : DataW.trod enc Tryz.prog w base spare held n 92 cs = some (d, ps)) : Reads w (vTake (takeOf d)).cells cs := by
 obtain ⟨ds, m, rfl, hl, hd, hf⟩ := struct_reads Tryz.underlying92 cellsTake h
 obtain ⟨c0, c1, c2, rfl⟩ := list3 hl
 obtain ⟨d0, d1, d2, rfl⟩ := list3 hd
 obtain ⟨_, h0⟩ := field1 hf 0 (c := c0) (x := d0) rfl cells3' rfl rfl
 obtain ⟨_, h1⟩ := field1 hf 1 (c := c1) (x := d1) rfl cells3' rfl rfl
 obtain ⟨_, h2⟩ := field1 hf 2 (c := c2) (x := d2) rfl cells3' rfl rfl
 obtain ⟨u0, e0, r0⟩ := int_reads Tryz.underlying3 h0
 obtain ⟨u1, e1, r1⟩ := int_reads Tryz.underlying3 h1
 obtain ⟨u2, e2, r2⟩ := int_reads Tryz.underlying3 h2
 cases e0; cases e1; cases e2
 exact r0.cons (r1.cons r2)
theorem rule_reads {n : Nat} {cs : List Value} {d : DataW H} {ps : List MemPlace} (h : DataW.trod enc Tryz.prog w base spare held n 66 cs = some (d, ps)) : Reads w (vRule (ruleOf d)).cells cs := by
 obtain ⟨ds, m, rfl, hl, hd, hf⟩ := struct_reads Tryz.underlying66 cellsRule h
 obtain ⟨c0, c1, c2, c3, c4, c5, c6, c7, c8, c9, c10, c11, c12, c13, rfl⟩ := list14 hl
 obtain ⟨d0, d1, d2, d3, d4, d5, d6, d7, d8, d9, d10, d11, d12, d13, rfl⟩ := list14 hd
 obtain ⟨_, h0⟩ := field1 hf 0 (c := c0) (x := d0) rfl cells9' rfl rfl
 obtain ⟨_, h1⟩ := field1 hf 1 (c := c1) (x := d1) rfl cells3' rfl rfl
 obtain ⟨_, h2⟩ := field1 hf 2 (c := c2) (x := d2) rfl cells3' rfl rfl
 obtain ⟨_, h3⟩ := field1 hf 3 (c := c3) (x := d3) rfl cells22' rfl rfl
 obtain ⟨_, h4⟩ := field1 hf 4 (c := c4) (x := d4) rfl cells22' rfl rfl
 obtain ⟨_, h5⟩ := field1 hf 5 (c := c5) (x := d5) rfl cells22' rfl rfl
 obtain ⟨_, h6⟩ := field1 hf 6 (c := c6) (x := d6) rfl cells3' rfl rfl
 obtain ⟨_, h7⟩ := field1 hf 7 (c := c7) (x := d7) rfl cells3' rfl rfl
 obtain ⟨_, h8⟩ := field1 hf 8 (c := c8) (x := d8) rfl cells3' rfl rfl
 obtain ⟨_, h9⟩ := field1 hf 9 (c := c9) (x := d9) rfl cells22' rfl rfl
 obtain ⟨_, h10⟩ := field1 hf 10 (c := c10) (x := d10) rfl cells22' rfl rfl
 obtain ⟨_, h11⟩ := field1 hf 11 (c := c11) (x := d11) rfl cells64' rfl rfl
 obtain ⟨_, h12⟩ := field1 hf 12 (c := c12) (x := d12) rfl cells22' rfl rfl
 obtain ⟨_, h13⟩ := field1 hf 13 (c := c13) (x := d13) rfl cells3' rfl rfl
 obtain ⟨u0, e0, r0, _⟩ := str_reads Tryz.underlying9 h0
 obtain ⟨u1, e1, r1⟩ := int_reads Tryz.underlying3 h1
 obtain ⟨u2, e2, r2⟩ := int_reads Tryz.underlying3 h2
 obtain ⟨u3, e3, r3, _⟩ := ints_reads Tryz.underlying22 Tryz.underlying3 cells3' h3
 obtain ⟨u4, e4, r4, _⟩ := ints_reads Tryz.underlying22 Tryz.underlying3 cells3' h4
 obtain ⟨u5, e5, r5, _⟩ := ints_reads Tryz.underlying22 Tryz.underlying3 cells3' h5
 obtain ⟨u6, e6, r6⟩ := int_reads Tryz.underlying3 h6
 obtain ⟨u7, e7, r7⟩ := int_reads Tryz.underlying3 h7
 obtain ⟨u8, e8, r8⟩ := int_reads Tryz.underlying3 h8
 obtain ⟨u9, e9, r9, _⟩ := ints_reads Tryz.underlying22 Tryz.underlying3 cells3' h9
 obtain ⟨u10, e10, r10, _⟩ := ints_reads Tryz.underlying22 Tryz.underlying3 cells3' h10
 obtain ⟨u11, e11, r11, _⟩ := slice_reads (g := fun x => vTake (takeOf x)) Tryz.underlying64 cellsTake (by omega) h11 fun x hx k cs' ps' h' => take_reads h'
 obtain ⟨u12, e12, r12, _⟩ := ints_reads Tryz.underlying22 Tryz.underlying3 cells3' h12
 obtain ⟨u13, e13, r13⟩ := int_reads Tryz.underlying3 h13
 cases e0; cases e1; cases e2; cases e3; cases e4; cases e5; cases e6; cases e7; cases e8; cases e9; cases e10; cases e11; cases e12; cases e13
 have e : (elemsOf d11).map (fun x => vTake (takeOf x)) = ((elemsOf d11).map takeOf).map vTake := by simp
 rw [e] at r11
 exact r0.cons (r1.cons (r2.cons (r3.cons (r4.cons (r5.cons (r6.cons (r7.cons (r8.cons (r9.cons (r10.cons (r11.cons (r12.cons r13))))))))))))
theorem cv_reads : ∀ (N : Nat) (d : DataW H), SizeOf.sizeOf d <= N -> ∀ (n : Nat) (cs : List Value) (ps : List MemPlace), DataW.trod enc Tryz.prog w base spare held n 27 cs = some (d, ps) -> Reads w (vV (cvOf d)).cells cs /\ (cvOf d).Ok := by
 intro N
 induction N with
 | zero => intro d hd; cases d <;> simp at hd
 | succ N ih =>
 intro d hd n cs ps h
 obtain ⟨v0, v1, d0, d1, m, p0, p1, rfl, rfl, h0, h1⟩ := struct2_reads Tryz.underlying27 cellsValue rfl rfl cells3' cells25' h
 simp only [DataW.agg.sizeOf_spec, List.cons.sizeOf_spec, List.nil.sizeOf_spec] at hd
 have hsz : ∀ x ∈ elemsOf d1, SizeOf.sizeOf x <= N := fun x hx => by have := elems_size hx; omega
 obtain ⟨u0, e0, r0⟩ := int_reads Tryz.underlying3 h0
 obtain ⟨u1, e1, r1, hlen, hex⟩ := slice_reads (g := fun x => vV (cvOf x)) Tryz.underlying25 cellsValue (by omega) h1 fun x hx k cs' ps' h' => (ih x (hsz x hx) k cs' ps' h').1
 cases e0; cases e1
 have ecv : cvOf (.agg [d0, d1]) = .mk (numI d0) ((elemsOf d1).map cvOf) := by rw [cvOf, cvAgg, cvKids_eq]
 rw [ecv, vV_eq]
 have e2 : (elemsOf d1).map (fun x => vV (cvOf x)) = ((elemsOf d1).map cvOf).map vV := by simp
 rw [e2] at r1
 refine ⟨r0.cons r1, .mk _ _ (by rw [List.length_map]; exact hlen) fun y hy => ?_⟩
 obtain ⟨x, hx, rfl⟩ := List.mem_map.1 hy
 obtain ⟨k, cs', ps', h'⟩ := hex x hx
 exact (ih x (hsz x hx) k cs' ps' h').2
theorem mod_reads {n : Nat} {cs : List Value} {d : DataW H} {ps : List MemPlace} (h : DataW.trod enc Tryz.prog w base spare held n 29 cs = some (d, ps)) : Reads w (cM (modOf d)) cs /\ (modOf d).start.Ok := by
 obtain ⟨ds, m, rfl, hl, hd, hf⟩ := struct_reads Tryz.underlying29 cellsModel h
 obtain ⟨c0, c1, c2, c3, c4, c5, c6, c7, c8, c9, rfl⟩ := list10 hl
 obtain ⟨d0, d1, d2, d3, d4, d5, d6, d7, d8, rfl⟩ := list9 hd
 obtain ⟨_, h0⟩ := field1 hf 0 (c := c0) (x := d0) rfl cells3' rfl rfl
 obtain ⟨_, h1⟩ := field1 hf 1 (c := c1) (x := d1) rfl cells23' rfl rfl
 obtain ⟨_, h2⟩ := field1 hf 2 (c := c2) (x := d2) rfl cells23' rfl rfl
 obtain ⟨_, h3⟩ := field1 hf 3 (c := c3) (x := d3) rfl cells23' rfl rfl
 obtain ⟨_, h4⟩ := field1 hf 4 (c := c4) (x := d4) rfl cells22' rfl rfl
 obtain ⟨_, h5⟩ := field1 hf 5 (c := c5) (x := d5) rfl cells3' rfl rfl
 obtain ⟨_, h6⟩ := field1 hf 6 (c := c6) (x := d6) rfl cells3' rfl rfl
 obtain ⟨_, h7⟩ := field1 hf 7 (c := c7) (x := d7) rfl cells24' rfl rfl
 obtain ⟨y8, p8, z8, h8⟩ := hf 8 _ rfl
 cases z8
 obtain ⟨r8, ok8⟩ := cv_reads _ d8 (Nat.le_refl _) _ _ _ h8
 have e8 : ([c0, c1, c2, c3, c4, c5, c6, c7, c8, c9].drop 8).take (Tryz.prog.cellsOf 27) = [c8, c9] := by rw [cellsValue]; rfl
 have r8' : Reads w (vV (cvOf d8)).cells [c8, c9] := e8 ▸ r8
 rw [vV_eq] at r8'
 obtain ⟨u0, e0, r0⟩ := int_reads Tryz.underlying3 h0
 obtain ⟨u1, e1, r1, _⟩ := strs_reads Tryz.underlying23 Tryz.underlying9 cells9' h1
 obtain ⟨u2, e2, r2, _⟩ := strs_reads Tryz.underlying23 Tryz.underlying9 cells9' h2
 obtain ⟨u3, e3, r3, _⟩ := strs_reads Tryz.underlying23 Tryz.underlying9 cells9' h3
 obtain ⟨u4, e4, r4, _⟩ := ints_reads Tryz.underlying22 Tryz.underlying3 cells3' h4
 obtain ⟨u5, e5, r5⟩ := int_reads Tryz.underlying3 h5
 obtain ⟨u6, e6, r6⟩ := int_reads Tryz.underlying3 h6
 obtain ⟨u7, e7, r7, _⟩ := slice_reads (g := fun x => vRule (ruleOf x)) Tryz.underlying24 cellsRule (by omega) h7 fun x hx k cs' ps' h' => rule_reads h'
 cases e0; cases e1; cases e2; cases e3; cases e4; cases e5; cases e6; cases e7
 have e : (elemsOf d7).map (fun x => vRule (ruleOf x)) = ((elemsOf d7).map ruleOf).map vRule := by simp
 rw [e] at r7
 refine ⟨?_, ok8⟩
 exact r0.cons (r1.cons (r2.cons (r3.cons (r4.cons (r5.cons (r6.cons (r7.cons r8')))))))
end
end Go.AM
namespace Go.Proofs.YtpmodjodfimejaaGreat
open Go.ChangeShapes Go.WideShapes Go.ChangeAt Go.RowKit Go.AM
theorem and_mk {a b : Bool} (h1 : a = true) (h2 : b = true) : (a && b) = true := by rw [h1, h2]; rfl
theorem cLaid : laidOutB Tryz.prog = true := by kernel_rfl
theorem cRowed : mapsRowed Tryz.prog = true := by kernel_rfl
theorem cHeard : Tryz.prog.stopsHeard = true := by kernel_rfl
theorem cEnter : Tryz.prog.mayEnter = true := by kernel_rfl
theorem cLifts : (Rows.modelExactRow.lifted == Tryz.prog.liftsFinal) = true := by kernel_rfl
theorem modelExactC0 : (Rows.modelExactRow.wf (OpenSpec.ofChange Rows.modelExactSpec)) = true := by kernel_rfl
theorem modelExactC3 : (Tryz.f3.params.all (Tryz.prog.readableRec ·)) = true := by kernel_rfl
theorem modelExactC4 : (namedTie Tryz.prog Rows.modelExactRow.named Rows.modelExactSpec.vars) = true := by kernel_rfl
theorem modelExactC5 : ((Rows.modelExactRow.stops == [])) = true := by kernel_rfl
theorem modelExactC6 : ((Tryz.prog.stops == [])) = true := by kernel_rfl
theorem modelExactC7 : ((Rows.modelExactRow.knobs == [])) = true := by kernel_rfl
theorem modelExactC8 : ((Tryz.prog.stopKnobs == [])) = true := by kernel_rfl
theorem modelExactC9 : ((Rows.modelExactRow.inPlace == Tryz.prog.inPlace 3)) = true := by kernel_rfl
theorem modelExactC10 : ((Rows.modelExactRow.unfollowed == Tryz.prog.unfollowed 3)) = true := by kernel_rfl
theorem modelExactC11 : ((Rows.modelExactRow.recurses == Tryz.prog.recurses 3)) = true := by kernel_rfl
theorem modelExactC12 : ((Rows.modelExactRow.named == Tryz.prog.varsNamed 3)) = true := by kernel_rfl
theorem modelExactC13 : ((Rows.modelExactRow.maps == (Tryz.f3.params.toList ++ Rows.modelExactSpec.plain.varTypes Tryz.prog).any (Tryz.prog.mapsRec ·))) = true := by kernel_rfl
theorem modelExactC14 : ((Rows.modelExactRow.ifaces == (Tryz.f3.params.toList ++ Rows.modelExactSpec.plain.varTypes Tryz.prog).any (Tryz.prog.ifacesRec ·))) = true := by kernel_rfl
theorem modelExactC15 : ((Rows.modelExactRow.mapsOut == Tryz.prog.mapsAmong Tryz.f3.resultTypes.toList)) = true := by kernel_rfl
theorem modelExactC16 : ((Rows.modelExactRow.loops == (Tryz.f3.params.toList ++ Rows.modelExactSpec.plain.varTypes Tryz.prog).any (Tryz.prog.loopsFrom ·))) = true := by kernel_rfl
theorem modelExactC17 : ((Rows.modelExactRow.wideKeys == (Tryz.f3.params.toList ++ Rows.modelExactSpec.plain.varTypes Tryz.prog ++ Tryz.f3.resultTypes.toList).any (Tryz.prog.wideKeysFrom ·))) = true := by kernel_rfl
theorem modelExactC18 : (Rows.modelExactSpec.vars.all (Tryz.prog.varReadable ·)) = true := by kernel_rfl
theorem modelExactC19 : (Tryz.f3.resultTypes.all (fun t => Tryz.prog.readableRec t && decide (t < Tryz.prog.types.size))) = true := by kernel_rfl
theorem modelExactC20 : ((Rows.modelExactRow.ifacesOut == Tryz.f3.resultTypes.toList.any (Tryz.prog.ifacesRec ·))) = true := by kernel_rfl
theorem modelExactC21 : ((Rows.modelExactRow.loopsOut == Tryz.f3.resultTypes.toList.any (Tryz.prog.loopsFrom ·))) = true := by kernel_rfl
theorem modelExactC22 : ((Rows.modelExactRow.plainKeys == Tryz.prog.plainKeys)) = true := by kernel_rfl
theorem modelExactC23 : (Rows.modelExactRow.shortTexts.isNone) = true := by kernel_rfl
theorem modelExactC27 : ((Tryz.prog.make == some Rows.modelExactRow.make)) = true := by kernel_rfl
theorem modelExactC28 : ((Rows.modelExactRow.kinds == (if Rows.modelExactRow.domain.isEmpty then [] else Tryz.f3.params.toList.map fun t => match Tryz.prog.underlying t with | some (.int k) => some k | _ => none))) = true := by kernel_rfl
theorem modelExactC29 : ((Rows.modelExactRow.pinned == Rows.modelExactRow.pinnedBy)) = true := by kernel_rfl
theorem modelExactC30 : ((Rows.modelExactRow.veiled == (Tryz.f3.params.toList ++ Rows.modelExactSpec.plain.varTypes Tryz.prog ++ Tryz.f3.resultTypes.toList).any (Tryz.prog.veiledRec ·))) = true := by kernel_rfl
theorem modelExactC31 : (Rows.modelExactRow.veiledFits Tryz.prog Tryz.f3.params.toList (Tryz.f3.params.toList ++ Rows.modelExactSpec.plain.varTypes Tryz.prog ++ Tryz.f3.resultTypes.toList)) = true := by kernel_rfl
set_option maxRecDepth 100000
theorem modelExactClosed : joinedFacts Tryz.prog 3 Tryz.f3 Rows.modelExactSpec Rows.modelExactRow = true := by
 unfold joinedFacts
 exact and_mk (and_mk (and_mk (and_mk (and_mk (and_mk (and_mk (and_mk (and_mk (and_mk (and_mk (and_mk (and_mk (and_mk (and_mk (and_mk (and_mk (and_mk (and_mk (and_mk (and_mk (and_mk (and_mk (and_mk (and_mk (and_mk (and_mk (and_mk (and_mk (and_mk (and_mk modelExactC0 cLaid) cRowed) modelExactC3) modelExactC4) modelExactC5) modelExactC6) modelExactC7) modelExactC8) modelExactC9) modelExactC10) modelExactC11) modelExactC12) modelExactC13) modelExactC14) modelExactC15) modelExactC16) modelExactC17) modelExactC18) modelExactC19) modelExactC20) modelExactC21) modelExactC22) modelExactC23) cHeard) cEnter) cLifts) modelExactC27) modelExactC28) modelExactC29) modelExactC30) modelExactC31
theorem modelExactNamed : Tryz.prog.funcNamed Rows.modelExactRow.func = some 3 := by kernel_rfl
end Go.Proofs.YtpmodjodfimejaaGreat
