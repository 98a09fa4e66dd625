/- LoZ -/
import Derived.Test.YtebcmlhgfmkpnaaGreatg22
import Derived.Test.YtebcmlhgfmkpnaaGreatg13
import Derived.Test.YtebcmlhgfmkpnaaGreatg23
namespace Go.AM
open Go Go.Proofs Go.RowKit
set_option maxRecDepth 100000
set_option maxHeartbeats 8000000
def maxTree1 : Tr := .front 1 (.front 2 (.front 3 (.front 5 (.front 6 (.front 7 (.alt (.one 0 (.alt (.one 4 (.one 8 (.one 9 (.front 10 (.front 11 (.front 12 (.one 13 (.one 14 .done)))))))) (.one 8 (.one 4 (.one 9 (.front 10 (.front 11 (.front 12 (.one 13 (.one 14 .done)))))))))) (.alt (.one 4 (.alt (.one 0 (.one 8 (.one 9 (.front 10 (.front 11 (.front 12 (.one 13 (.one 14 .done)))))))) (.one 8 (.one 0 (.one 9 (.front 10 (.front 11 (.front 12 (.one 13 (.one 14 .done)))))))))) (.one 8 (.alt (.one 0 (.one 4 (.one 9 (.front 10 (.front 11 (.front 12 (.one 13 (.one 14 .done)))))))) (.one 4 (.one 0 (.one 9 (.front 10 (.front 11 (.front 12 (.one 13 (.one 14 .done)))))))))))))))))
theorem con_lMaximise (m : MD) (l : List ClD) (hL : Con Tryz.prog 54 [vM m] [] fun r _ => r = vi 0) (h0 : 0 < l.length) (hl : l.length <= 12) (ho : ∀ a ∈ l, CloudOk m a.1 a.2) : Con Tryz.prog 18 [vM m, .sl 0 2 (l.map vCP)] [] fun r _ => r = .tup [.sl 0 2 ((maxCl m.letters.length l).map vCP), vi 0] := by
 refine Con.intro Tryz.func18 rfl Tryz.ntmps18 Tryz.results18 (by kernel_rfl) (by simp) 0 (by simp) ?_
 have c1 := con_lcheckAll m l ho (by omega)
 have c2 := con_lmaximise m l h0 hl ho
 simp only [vM, cM, vss] at c1 c2 hL
 simp only [go_sem, cM, vss]
 refine CallU.free hL (by simp only [go_sem]) (by simp only [go_sem]) ?_
 rintro q bx rfl
 simp only [go_sem]
 refine CallU.free c1 (by simp only [go_sem]) (by simp only [go_sem]) ?_
 rintro q bx rfl
 simp only [go_sem]
 refine CallU.free c2 (by simp only [go_sem]) (by simp only [go_sem]) ?_
 rintro q bx rfl
 simp only [go_sem]
theorem red_id {p : List TmD} (h : OkP p) (hr : redP p) : normP p = p := red_eq (normP_ok h) h (normP_red p) hr (normP_eq p).symm
theorem con_maximalLaw (l : List Int) (hl : l.length <= 9223372036854775807) (hx : ∀ x ∈ l, 0 <= x /\ x < 256) :
    Con Tryz.prog 4 [.sl 0 1 (l.map vu)] [] fun r _ => r = vb true := by
  refine Con.intro Tryz.func4 rfl Tryz.ntmps4 Tryz.results4 (by kernel_rfl) (by simp) 0 (by simp) ?_
  have hs : Seeds (l.take 200) := ⟨by rw [List.length_take]; omega, fun x h => hx x (List.mem_of_mem_take h)⟩
  simp only [go_sem]
  refine CallU.free con_lsane (by simp only [go_sem]) (by simp only [go_sem]) ?_
  rintro r bx rfl
  simp only [go_sem]
  refine CallU.news (bx0 := []) (con_new l hl) (by simp only [go_sem]) (by simp only [go_sem]) (by simp only [go_sem]) (by simp only [go_sem]) (by simp only [go_sem]) ?_
  rintro r bx ⟨rfl, rfl⟩
  generalize l.take 200 = l at hs
  simp only [go_sem]
  refine CallU.boxes (i := 0) (is := []) (bx0 := [diceA l 0]) (con_Channel l 0 hs (by omega)) (by simp only [go_sem]) (by simp only [go_sem]) (by simp only [go_sem]) (by simp only [go_sem]) (by simp only [go_sem]) ?_
  rintro r bx ⟨ns, np, nl, rules, ws, at1, hd, ha1, rfl, rfl⟩
  have hns := hd.hns
  have hnp := hd.hnp
  have hnl := hd.hnl
  obtain ⟨l1, l2, l3⟩ := hd.lens
  have hL := con_dealLossy hd
  have hVal : ∀ (n : Int) (vs : List (List Int)), 0 <= n /\ n < ns -> ChanW np nl vs -> Con Tryz.prog 55 [vM (chanM ns np nl rules ws), vV (chanV n vs)] [] fun r _ => r = vb true := fun n vs hn hw => by
    have := con_ValidG (chanM ns np nl rules ws) (chanV n vs) hd.len (chanV_ok (by have := hw.len; omega) fun x hx => by have := (hw.few x hx).1; omega)
    have e : confG (chanM ns np nl rules ws) (chanV n vs) = true := by
      unfold confG
      rw [hd.check, decide_eq_true rfl, Bool.true_and]
      exact chan_valid hns hnp hnl hn hw rules ws
    rw [e] at this
    exact this
  have hkind : (chanM ns np nl rules ws).kind = 2 := rfl
  generalize chanM ns np nl rules ws = m at l1 l2 l3 hL hVal hkind
  have g1 := cloudW_ok (l := l) (at_ := at1) (m := m) ha1 (by omega) (by omega)
  have d1 := con_lcloud1 l at1 m hs ha1 (by omega) (by omega) (by omega)
  have g2 := cloudW_ok (l := l) (at_ := cloudA l at1 m) (m := m) g1.2 (by omega) (by omega)
  have d2 := con_lcloud1 l (cloudA l at1 m) m hs g1.2 (by omega) (by omega) (by omega)
  have g3 := cloudW_ok (l := l) (at_ := cloudA l (cloudA l at1 m) m) (m := m) g2.2 (by omega) (by omega)
  have d3 := con_lcloud1 l (cloudA l (cloudA l at1 m) m) m hs g2.2 (by omega) (by omega) (by omega)
  generalize cloudA l (cloudA l (cloudA l at1 m) m) m = at4 at g3 d3
  generalize cloudW l (cloudA l (cloudA l at1 m) m) m = W3 at g3 d3
  generalize pickV l (cloudA l (cloudA l at1 m) m) m.states.length = s3 at g3 d3
  generalize cloudA l (cloudA l at1 m) m = at3 at g2 d2 g3 d3
  generalize cloudW l (cloudA l at1 m) m = W2 at g2 d2
  generalize pickV l (cloudA l at1 m) m.states.length = s2 at g2 d2
  generalize cloudA l at1 m = at2 at g1 d1 g2 d2
  generalize cloudW l at1 m = W1 at g1 d1
  generalize pickV l at1 m.states.length = s1 at g1 d1
  have o1 : CloudOk m s1 W1 := g1.1.ok (by omega) (by omega)
  have o2 : CloudOk m s2 W2 := g2.1.ok (by omega) (by omega)
  have o3 : CloudOk m s3 W3 := g3.1.ok (by omega) (by omega)
  obtain ⟨L, eL⟩ : ∃ L : List ClD, L = [(s1, W1), (s2, W2), (s3, W3)] := ⟨_, rfl⟩
  have hLo : ∀ a ∈ L, CloudOk m a.1 a.2 := fun a ha => by
    rw [eL] at ha
    simp only [List.mem_cons, List.not_mem_nil, or_false] at ha
    rcases ha with rfl | rfl | rfl
    · exact o1
    · exact o2
    · exact o3
  have hLl : L.length = 3 := by rw [eL]; rfl
  have eLm : [AV.ag [AV.sc (.int .i64 s1), .sl 0 1 (W1.map vPr)], .ag [AV.sc (.int .i64 s2), .sl 0 1 (W2.map vPr)], .ag [AV.sc (.int .i64 s3), .sl 0 1 (W3.map vPr)]] = L.map vCP := by rw [eL]; rfl
  simp only [vM, cM, vss, vCl] at d1 d2 d3
  simp only [go_sem, vM, cM, vss]
  refine DrawK.effs0 0 [2, 5, 8] [] 9 (.one 9 (.one 10 .done)) none (diceA l at1) mixed (by kernel_rfl) (by kernel_rfl) (by simp only [go_sem]) (by simp only [go_sem]) ?_
  simp only [go_sem]
  refine EffK.mk d1 (by simp only [go_sem]) (by simp only [go_sem]) (by simp only [go_sem]) (by simp only [go_sem]) ?_
  simp only [go_sem]
  refine EffK.mk d2 (by simp only [go_sem]) (by simp only [go_sem]) (by simp only [go_sem]) (by simp only [go_sem]) ?_
  simp only [go_sem]
  refine EffK.mk d3 (by simp only [go_sem]) (by simp only [go_sem]) (by simp only [go_sem]) (by simp only [go_sem]) ?_
  simp only [go_sem]
  refine andK_mk ?_ trivial
  have cM1 := con_lMaximise m L hL (by omega) (by omega) hLo
  have hml := max_len m.letters.length L
  have hmo : ∀ a ∈ maxCl m.letters.length L, CloudOk m a.1 a.2 := max_cloud hLo
  have hcl : ∀ a ∈ L, OkCl m.letters.length m.places.length a := fun a ha => (hLo a ha).cl
  have hmq := fun i k (hi : i < (maxCl m.letters.length L).length) (hk : k < (maxCl m.letters.length L).length) => max_leq hcl hi hk
  have hmc := fun i (hi : i + 1 < (maxCl m.letters.length L).length) => max_cmp (nl := m.letters.length) L hi
  have hma := fun n ws => max_any (nl := m.letters.length) hcl n ws
  have hmr : ∀ a ∈ maxCl m.letters.length L, ∀ p ∈ a.2, redP p := fun a ha => (max_mem hcl ha).2.1
  generalize maxCl m.letters.length L = X at cM1 hml hmo hmq hmc hma hmr
  have eLn := eLm
  have ha4 := g3.2
  simp only [vM, cM, vss] at cM1
  rw [eLm]
  refine CallU.freeze cM1 (by simp only [go_sem]) (by simp only [go_sem]) ?_
  rintro r bx rfl
  simp only [go_sem, List.length_map]
  refine LoopK.intro (fun i : Nat => ⟨154, [(2, vb false), (3, .pb 0 0), (4, .pb 1 0), (5, .sl 0 2 (L.map vCP)), (6, .sl 0 2 (X.map vCP)), (46, .sl 0 2 (X.map vCP)), (47, vi X.length), (48, vi i)], [diceA l at4, cM m]⟩)
    (fun i => X.length - i) (fun i => i <= X.length) 0 (Nat.zero_le _) ?_ ?_
  · simp only [go_sem, cM, vss]
  rintro i hi
  have hwi : IntKind.i64.wrap (i + 1) = i + 1 := wrap_in (by omega) (by omega)
  by_cases h4 : i < X.length
  case pos =>
    have hg := getCl h4
    have hoi := hmo _ (memCl h4)
    simp only [go_sem, h4, cM, vss, List.length_map]
    refine LoopK.intro (fun k : Nat => ⟨154, [(2, vb false), (3, .pb 0 0), (4, .pb 1 0), (5, .sl 0 2 (L.map vCP)), (6, .sl 0 2 (X.map vCP)), (8, vi i), (46, .sl 0 2 (X.map vCP)), (47, vi X.length), (48, vi i), (52, vi X.length), (53, vi k)], [diceA l at4, cM m]⟩)
      (fun k => X.length - k) (fun k => k <= X.length) 0 (Nat.zero_le _) ?_ ?_
    · simp only [go_sem, cM, vss]
    · rintro k hk
      have hwk : IntKind.i64.wrap (k + 1) = k + 1 := wrap_in (by omega) (by omega)
      by_cases h5 : k < X.length
      case pos =>
        have hgk := getCl h5
        have cl := con_lLeq m X[i]! X[k]! hL hoi (hmo _ (memCl h5))
        rw [hmq i k h4 h5] at cl
        have hbq : (decide (i = k) != ((i : Int) == (k : Int))) = false := by
          by_cases e : i = k
          · subst e; simp
          · have : ¬ (i : Int) = (k : Int) := by omega
            simp [e, this]
        simp only [vM, cM, vss, vCP, vCl] at cl
        simp only [go_sem, h5, cM, vss]
        refine DrawK.meet ⟨154, [(2, vb false), (3, .pb 0 0), (4, .pb 1 0), (5, .sl 0 2 (L.map vCP)), (6, .sl 0 2 (X.map vCP)), (8, vi i), (9, vi k), (10, vb (decide (i = k))), (11, vi 0), (46, .sl 0 2 (X.map vCP)), (47, vi X.length), (48, vi i), (52, vi X.length), (53, vi k)], [diceA l at4, cM m]⟩ ?_ ?_
        · refine DrawK.tree maxTree1 mixed (by kernel_rfl) ?_
          unfold maxTree1
          simp only [go_sem, h4, h5, hg, hgk, List.length_map]
          repeat' (first
            | with_reducible apply andK_mk
            | (refine CallU.free cl (by simp only [go_sem]) (by simp only [go_sem]) ?_
               rintro r bx rfl
               simp only [go_sem, cM, vss])
            | simp only [go_sem, hg, hgk])
        simp only [go_sem, hwk, cM, vss]
        refine roundK.intro (k + 1) (by omega) (by omega) ?_
        simp only [go_sem]
      -- the order
      simp only [go_sem, h5, cM, vss]
      refine DrawK.meet ⟨154, [(2, vb false), (3, .pb 0 0), (4, .pb 1 0), (5, .sl 0 2 (L.map vCP)), (6, .sl 0 2 (X.map vCP)), (8, vi i), (46, .sl 0 2 (X.map vCP)), (47, vi X.length), (48, vi i), (93, vb false)], [diceA l at4, cM m]⟩ ?_ ?_
      · by_cases h0 : 0 < i
        · have hc := hmc (i - 1) (by omega)
          rw [show i - 1 + 1 = i by omega] at hc
          have h1 : i - 1 < X.length := by omega
          have hg1 := getCl h1
          have ho1 := hmo _ (memCl h1)
          have cc := con_r31Compare X[i - 1]! X[i]! (fun p hp => (ho1.ws p hp).lenP) (fun p hp => (hoi.ws p hp).lenP) (by have := ho1.len; omega) (by rw [ho1.len, hoi.len])
          have hwm : IntKind.i64.wrap ((i : Int) - 1) = ((i - 1 : Nat) : Int) := by rw [wrap_in (by omega) (by omega)]; omega
          have hq : ¬ 0 <= cmpCl X[i - 1]! X[i]! := by omega
          simp only [vCl] at cc
          refine DrawK.walk 15 mixed (by kernel_rfl) ?_
          simp only [go_sem, h0, h1, h4, hg, hg1, hwm, List.length_map]
          refine CallY.mk cc (by simp only [go_sem]) (by simp only [go_sem]) (.inl (by simp only [go_sem])) ?_
          simp only [go_sem, hq, cM, vss]
        · refine DrawK.walk 15 mixed (by kernel_rfl) ?_
          simp only [go_sem, h0, cM, vss]
      simp only [go_sem, h4, hg, cM, vss, List.length_map]
      have hwl := hoi.len
      have hvw := hoi.ws
      have hrw := hmr _ (memCl h4)
      generalize X[i]!.2 = V at hwl hvw hrw
      refine LoopK.intro (fun j : Nat => ⟨154, [(2, vb false), (3, .pb 0 0), (4, .pb 1 0), (5, .sl 0 2 (L.map vCP)), (6, .sl 0 2 (X.map vCP)), (46, .sl 0 2 (X.map vCP)), (47, vi X.length), (48, vi i), (98, .sl 0 1 (V.map vPr)), (99, vi V.length), (100, vi j)], [diceA l at4, cM m]⟩)
        (fun j => V.length - j) (fun j => j <= V.length) 0 (Nat.zero_le _) ?_ ?_
      · simp only [go_sem, cM, vss]
      rintro j hj
      by_cases h6 : j < V.length
      case neg =>
        simp only [go_sem, h6, hwi, cM, vss]
        refine roundK.intro (i + 1) (by omega) (by omega) ?_
        simp only [go_sem]
      have hwj : IntKind.i64.wrap (j + 1) = j + 1 := wrap_in (by omega) (by omega)
      have hgj := getPr h6
      have hvj := hvw _ (mem_bangI h6)
      have cn := con_r09Normal m.letters.length V[j]! hvj.lenP
      rw [if_pos (check_zero.2 hvj), red_id hvj.ok (hrw _ (mem_bangI h6))] at cn
      have cs := con_r09Same V[j]! V[j]! hvj.lenP hvj.lenP
      rw [decide_eq_true rfl] at cs
      simp only [vPr] at cn cs
      simp only [go_sem, h6, hgj, cM, vss, List.length_map]
      refine CallU.free cn (by simp only [go_sem]) (by simp only [go_sem]) ?_
      rintro r bx rfl
      simp only [go_sem]
      refine CallU.free cs (by simp only [go_sem]) (by simp only [go_sem]) ?_
      rintro r bx rfl
      simp only [go_sem, hwj]
      refine roundK.intro (j + 1) (by omega) (by omega) ?_
      simp only [go_sem]
  simp only [go_sem, h4, cM, vss]
  refine LoopK.intro (fun x : Nat × Nat => ⟨154, [(2, vb false), (3, .pb 0 0), (4, .pb 1 0), (5, .sl 0 2 (L.map vCP)), (6, .sl 0 2 (X.map vCP)), (16, vi x.1)], diceA l x.2 :: cM m :: Rk 2 x.1⟩)
    (fun x => 3 - x.1) (fun x => x.1 <= 3 /\ x.2 <= l.length) (0, at4) ⟨by show 0 <= 3; omega, ha4⟩ ?_ ?_
  · simp only [go_sem, cM, vss, Rk, List.replicate_zero]
  rintro ⟨n, a5⟩ ⟨hn, ha5⟩
  simp only at hn ha5
  have hB := Rk_len 2 n
  have n0 := fun L : List (List AV) => app_at0 (L := L) hB
  have s0 := fun (L : List (List AV)) z => app_set0 (L := L) (z := z) hB
  have hwn : IntKind.i64.wrap (n + 1) = n + 1 := wrap_in (by omega) (by omega)
  by_cases h7 : n < 3
  case neg =>
    have h7' : ¬ (n : Int) < 3 := by omega
    simp only [go_sem, h7']
  have h7' : (n : Int) < 3 := by omega
  have cf := con_lConfig l a5 m hs ha5 hkind (by omega) (by omega) (by omega)
  obtain ⟨q1, q2, q3⟩ := drawWs_ok (l := l) (n := m.letters.length) (most := 2) (by omega) m.places.length (pickA_le ha5)
  have qs := pickV_lt (l := l) (at_ := a5) (n := m.states.length) (by omega)
  generalize pickV l a5 m.states.length = z at cf qs
  generalize (drawWs l m.letters.length 2 m.places.length (pickA l a5)).2 = a6 at cf q3
  generalize (drawWs l m.letters.length 2 m.places.length (pickA l a5)).1 = vs at cf q1 q2
  have hcw : ChanW np nl vs := ⟨by rw [q1, l2], fun w hw => by have := q2 w hw; rw [<- l3]; exact this⟩
  have hv := hVal z vs (by omega) hcw
  have e1 := con_lExcludes m L z vs hL hLo (by omega) hv q1 (fun w hw => by have := (q2 w hw).1; omega)
  have e2 := con_lExcludes m X z vs hL hmo (by omega) hv q1 (fun w hw => by have := (q2 w hw).1; omega)
  rw [hma] at e2
  generalize (!L.any fun a => hasCl m.letters.length a z vs) = res at e1 e2
  rw [vV_eq] at cf e1 e2
  generalize (chanV z vs).kids = K at cf e1 e2
  generalize (chanV z vs).n = zz at cf e1 e2
  simp only [vM, cM, vss] at cf e1 e2
  simp only [go_sem, h7', cM, vss]
  refine CallU.boxes (i := 0) (is := []) (bx0 := [diceA l a5]) cf (by simp only [go_sem]) (by simp only [go_sem]) (by simp only [go_sem]) (by simp only [go_sem]) (by simp only [go_sem]) ?_
  rintro r b ⟨rfl, rfl⟩
  simp only [go_sem, hB, n0, s0]
  refine CallU.free e1 (by simp only [go_sem]) (by simp only [go_sem]) ?_
  rintro r bx rfl
  simp only [go_sem, n0]
  refine CallU.free e2 (by simp only [go_sem]) (by simp only [go_sem]) ?_
  rintro r bx rfl
  simp only [go_sem, hwn]
  refine roundK.intro (n + 1, a6) ⟨by show n + 1 <= 3; omega, q3⟩ (by show 3 - (n + 1) < 3 - n; omega) ?_
  simp only [go_sem, Rk_succ]
  exact leB_RkA (x := [[_, _]]) (y := [List.replicate 2 .any]) ⟨⟨leV_any _, leV_any _, trivial⟩, trivial⟩
end Go.AM
